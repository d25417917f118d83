/-
  Own text. NetWhole: what is carried from round to round; the walk over the law where both slices came in.
-/
import Derived.Test.YtgepnglmhalomaaSpoilA
import Derived.Deep.QuietTactic
import Derived.BigQuiet
import Derived.IntWalk
import Derived.Deep.LoopGhost
namespace Go.Proofs.Ytgepnglmhalomaa
open Go.RowKit

/-- A text of bytes that came in. -/
structure InB where
  A : Option Addr
  c : Nat
  b : List UInt8

/-- The slice at ⟨lb, lo⟩ holds the texts ls. -/
def Ins (w : World) (lb lo : Nat) (ls : List InB) : Prop := ∀ k e, ls[k]? = some e → w.cell? ⟨lb, lo + k, none⟩ = some (.slice e.A e.b.length e.c) ∧ Bts w e.A e.b ∧ e.b.length ≤ 140737488355328

theorem Ins.below {w0 w : World} {lb lo : Nat} {ls : List InB} (h : Ins w0 lb lo ls) (hb : Below w0.heap.size w0 w) : Ins w lb lo ls := fun k e he => by
  obtain ⟨h1, h2, h3⟩ := h k e he
  exact ⟨(hb.cell (block_lt_of_cell h1)).trans h1, h2.below' hb, h3⟩

/-- The slice at AX holds the numbers xs. -/
def Nums (w : World) (AX : Option Addr) (xs : List Int) : Prop := ∀ k v, xs[k]? = some v → ∃ xb xo, AX = some ⟨xb, xo, none⟩ ∧ w.cell? ⟨xb, xo + k, none⟩ = some (.int .u32 v) ∧ 0 ≤ v ∧ v < 4294967296

/-- The j-th parcel that is sent. -/
def pw (ls : List InB) (j : Nat) : Pk := ⟨j, (j : Int) + 1, ((ls[j]?).map InB.b).getD []⟩

/-- How often each comes. -/
def manyOf (idx : List Nat) : Array Value := ((List.range 20).map fun j => Value.int .i64 ((idx.count j : Nat) : Int)).toArray

theorem manyOf_get (idx : List Nat) (j : Nat) (hj : j < 20) : (manyOf idx)[j]? = some (.int .i64 ((idx.count j : Nat) : Int)) := by
  simp [manyOf, hj]
theorem manyOf_set (idx idx' : List Nat) (j : Nat) (v : Int) (hv : v = ((idx'.count j : Nat) : Int)) (ho : ∀ i, i ≠ j → idx'.count i = idx.count i) : (manyOf idx).setIfInBounds j (.int .i64 v) = manyOf idx' := by
  unfold manyOf
  rw [List.setIfInBounds_toArray]
  congr 1
  apply List.ext_getElem
  · simp
  · intro n h1 h2
    rw [List.getElem_set]
    split
    · rename_i h
      subst h
      simp [hv]
    · rename_i h
      simp [ho n (Ne.symm h)]

/-- What is carried: the net has the parcels idx, and many tells how often each comes. -/
def Held (w0 w : World) (PM bp : Nat) (ls : List InB) (idx : List Nat) : Prop := Mine w0 [PM] w bp (idx.map (pw ls)) ∧ Blk w PM 47 (manyOf idx) ∧ (∀ j ∈ idx, j < ls.length) ∧ w0.heap.size ≤ PM

theorem held_sent {w0 w : World} {PM bp k : Nat} {ls : List InB} {x : Pk} (hm : Mine w0 [PM] w bp ((List.range k).map (pw ls) ++ [x])) (hb : w.heap[PM]? = some (.cells (manyOf (List.range k)) 47 (0, 0))) (hx : pw ls k = x) (hP : w0.heap.size ≤ PM) (hk : k < ls.length) :
    Held w0 (w.setCell ⟨PM, k, none⟩ (.int .i64 1)) PM bp ls (List.range (k + 1)) := by
  refine ⟨?_, ?_, fun j hj' => ?_, hP⟩
  · rw [List.range_succ, List.map_append, List.map_singleton, hx]
    exact hm.store (p := ⟨PM, k, none⟩) (by simp) hP _
  · have h := Blk.set_ (show Blk w PM 47 (manyOf (List.range k)) from hb) k (.int .i64 1)
    rw [manyOf_set (List.range k) (List.range (k + 1)) k 1 ?_ ?_] at h
    · exact h
    · rw [List.range_succ, List.count_append, List.count_eq_zero_of_not_mem (by simp)]
      simp
    · intro i hi
      rw [List.range_succ, List.count_append, List.count_eq_zero_of_not_mem (l := [k]) (by simpa using hi)]
      simp
  · simp only [List.mem_range] at hj'
    omega

theorem Held.below {w0 w w' : World} {PM bp : Nat} {ls : List InB} {idx : List Nat} (h : Held w0 w PM bp ls idx) (hb : Below w.heap.size w w') : Held w0 w' PM bp ls idx :=
  ⟨h.1.below hb, h.2.1.below hb h.2.1.lt, h.2.2⟩
/-- A block that a quiet call has laid is none of the net's. -/
theorem Mine.keepNew {w0 w w' : World} {Ps : List Nat} {bp g : Nat} {L : List Pk} (h : Mine w0 Ps w bp L) (hb : Below w.heap.size w w') (hg : w.heap.size ≤ g) (hg' : g < w'.heap.size) : Mine w0 (g :: Ps) w' bp L := by
  obtain ⟨F, hn, hF, hw, hP⟩ := h
  refine ⟨F, hn.below hb, fun k hk => ⟨(hF k hk).1, fun hm => ?_⟩, hw.trans (hb.mono hw.size), fun k hk => ?_⟩
  · rcases List.mem_cons.1 hm with h | h
    · have := hn.lt k hk
      omega
    · exact (hF k hk).2 h
  · rcases List.mem_cons.1 hk with h | h
    · omega
    · exact Nat.lt_of_lt_of_le (hP k h) hb.size
theorem Mine.weak {w0 w : World} {Ps Ps' : List Nat} {bp : Nat} {L : List Pk} (h : Mine w0 Ps w bp L) (hs : ∀ k ∈ Ps', k ∈ Ps) : Mine w0 Ps' w bp L := by
  obtain ⟨F, hn, hF, hw, hP⟩ := h
  exact ⟨F, hn, fun k hk => ⟨(hF k hk).1, fun hm => (hF k hk).2 (hs k hm)⟩, hw, fun k hk => hP k (hs k hk)⟩
theorem count_erase {idx : List Nat} {p j : Nat} (hj : idx[p]? = some j) (i : Nat) : (idx.eraseIdx p).count i = idx.count i - (if i = j then 1 else 0) := by
  obtain ⟨hp, rfl⟩ := List.getElem?_eq_some_iff.1 hj
  have h := List.perm_middle (a := idx[p]) (l₁ := idx.take p) (l₂ := idx.drop (p + 1))
  have h2 : idx.take p ++ idx[p] :: idx.drop (p + 1) = idx := by rw [← List.drop_eq_getElem_cons hp, List.take_append_drop]
  rw [h2, ← List.eraseIdx_eq_take_drop_succ] at h
  rw [h.count_eq, List.count_cons]
  by_cases hi : i = idx[p]
  · simp [hi]
  · simp [hi, Ne.symm hi]
/-- A parcel has been taken, and counted. -/
theorem held_taken {w0 w : World} {PM bp p j : Nat} {ls : List InB} {idx : List Nat} {Ps : List Nat} (hm : Mine w0 Ps w bp ((idx.map (pw ls)).eraseIdx p)) (hPs : PM ∈ Ps) (hb : Blk w PM 47 (manyOf idx)) (hj : idx[p]? = some j) (hlt : ∀ j ∈ idx, j < ls.length) (hP : w0.heap.size ≤ PM) (v : Int) (hv : v = ((idx.count j : Nat) : Int) - 1) :
    Held w0 (w.setCell ⟨PM, j, none⟩ (.int .i64 v)) PM bp ls (idx.eraseIdx p) := by
  have hc := List.count_pos_iff.2 (List.mem_of_getElem? hj)
  refine ⟨?_, ?_, fun i hi => hlt i (List.mem_of_mem_eraseIdx hi), hP⟩
  · have h : (idx.eraseIdx p).map (pw ls) = (idx.map (pw ls)).eraseIdx p := by
      rw [List.eraseIdx_eq_take_drop_succ, List.eraseIdx_eq_take_drop_succ, List.map_append, List.map_take, List.map_drop]
    rw [h]
    exact (hm.store (p := ⟨PM, j, none⟩) hPs hP _).weak (fun k hk => by rw [List.mem_singleton] at hk; rw [hk]; exact hPs)
  · have h := hb.set_ j (.int .i64 v)
    rw [manyOf_set idx (idx.eraseIdx p) j v (by rw [count_erase hj, if_pos rfl, hv]; omega) (fun i hi => by rw [count_erase hj, if_neg hi, Nat.sub_zero])] at h
    exact h
/-- A parcel has been sent again, and counted. -/
theorem held_doubled {w0 w : World} {PM bp j : Nat} {ls : List InB} {idx : List Nat} {x : Pk} {Ps : List Nat} (hm : Mine w0 Ps w bp (idx.map (pw ls) ++ [x])) (hx : pw ls j = x) (hPs : PM ∈ Ps) (hb : Blk w PM 47 (manyOf idx)) (hj : j < ls.length) (hlt : ∀ j ∈ idx, j < ls.length) (hP : w0.heap.size ≤ PM) (v : Int) (hv : v = ((idx.count j : Nat) : Int) + 1) :
    Held w0 (w.setCell ⟨PM, j, none⟩ (.int .i64 v)) PM bp ls (idx ++ [j]) := by
  refine ⟨?_, ?_, fun i hi => ?_, hP⟩
  · rw [List.map_append, List.map_singleton, hx]
    exact (hm.store (p := ⟨PM, j, none⟩) hPs hP _).weak (fun k hk => by rw [List.mem_singleton] at hk; rw [hk]; exact hPs)
  · have h := hb.set_ j (.int .i64 v)
    rw [manyOf_set idx (idx ++ [j]) j v (by rw [List.count_append, hv]; simp) (fun i hi => by rw [List.count_append, List.count_eq_zero_of_not_mem (l := [j]) (by simpa using hi), Nat.add_zero])] at h
    exact h
  · rcases List.mem_append.1 hi with hi | hi
    · exact hlt i hi
    · rw [List.mem_singleton] at hi
      omega
theorem count_swapped {idx : List Nat} {p q a b : Nat} (ha : idx[p]? = some a) (hb : idx[q]? = some b) (i : Nat) : ((idx.set p b).set q a).count i = idx.count i := by
  obtain ⟨h1, h2⟩ := List.getElem?_eq_some_iff.1 ha
  obtain ⟨h3, h4⟩ := List.getElem?_eq_some_iff.1 hb
  subst h2
  subst h4
  exact (List.set_set_perm h1 h3).count_eq i
theorem held_swapped {w0 w : World} {PM bp p q a b : Nat} {ls : List InB} {idx : List Nat} {x y : Pk} {Ps : List Nat} (hm : Mine w0 Ps w bp (((idx.map (pw ls)).set p y).set q x)) (hx : pw ls a = x) (hy : pw ls b = y) (hPs : PM ∈ Ps) (hbk : Blk w PM 47 (manyOf idx)) (ha : idx[p]? = some a) (hb : idx[q]? = some b) (hlt : ∀ j ∈ idx, j < ls.length) (hP : w0.heap.size ≤ PM) :
    Held w0 w PM bp ls ((idx.set p b).set q a) := by
  refine ⟨?_, ?_, fun i hi => ?_, hP⟩
  · rw [List.map_set, List.map_set, hx, hy]
    exact hm.weak (fun k hk => by rw [List.mem_singleton] at hk; rw [hk]; exact hPs)
  · have h : manyOf ((idx.set p b).set q a) = manyOf idx := by
      unfold manyOf
      simp only [count_swapped ha hb]
    rw [h]
    exact hbk
  · rcases List.mem_or_eq_of_mem_set hi with hi | hi
    · rcases List.mem_or_eq_of_mem_set hi with hi | hi
      · exact hlt i hi
      · exact hlt i (hi ▸ List.mem_of_getElem? hb)
    · exact hlt i (hi ▸ List.mem_of_getElem? ha)
theorem size47 : (Try.prog.info? 47).map (·.size) = some 20 := by kernel_rfl
theorem eq20 : ∀ w, (binOp .eql 47 (.agg #[.int .i64 0, .int .i64 0, .int .i64 0, .int .i64 0, .int .i64 0, .int .i64 0, .int .i64 0, .int .i64 0, .int .i64 0, .int .i64 0, .int .i64 0, .int .i64 0, .int .i64 0, .int .i64 0, .int .i64 0, .int .i64 0, .int .i64 0, .int .i64 0, .int .i64 0, .int .i64 0]) (.agg #[.int .i64 0, .int .i64 0, .int .i64 0, .int .i64 0, .int .i64 0, .int .i64 0, .int .i64 0, .int .i64 0, .int .i64 0, .int .i64 0, .int .i64 0, .int .i64 0, .int .i64 0, .int .i64 0, .int .i64 0, .int .i64 0, .int .i64 0, .int .i64 0, .int .i64 0, .int .i64 0])).run Try.prog w = .ok (.bool true) w := fun w => by kernel_rfl
theorem pick_at (m n : Int) (hm : 0 ≤ m) (hm' : m < 4294967296) (hn : 0 < n) : ∃ k : Nat, (wrap64 m).tmod n = k ∧ (k : Int) < n := by
  rw [IntWalk.wrap64_in m ⟨by omega, by omega⟩]
  have h1 := Int.tmod_nonneg n hm
  have h2 := Int.tmod_lt_of_pos m hn
  exact ⟨(m.tmod n).toNat, by omega, by omega⟩
theorem and_bd (v k : Int) (h0 : 0 ≤ v) (h1 : v < 4294967296) (k0 : 0 ≤ k) (k1 : k < 4294967296) : 0 ≤ bits .and .u32 v k ∧ bits .and .u32 v k < 4294967296 := by
  rw [u32_and v k h0 h1 k0 k1]
  have : v.toNat &&& k.toNat ≤ v.toNat := Nat.and_le_left
  omega

set_option maxRecDepth 100000 in
set_option maxHeartbeats 4000000 in
theorem whole_walk (lb lo nx cx cl : Nat) (AL AX : Option Addr) (ls : List InB) (w : World) (hal : 0 < ls.length → AL = some ⟨lb, lo, none⟩) (hins : Ins w lb lo ls) (xs : List Int) (hxs : Nums w AX xs) (hxl : xs.length = nx) (hl : ls.length ≤ 20) (hx : nx ≤ 60) :
    Calls Try.prog 4 #[.slice AL ls.length cl, .slice AX nx cx] w (Quiet (.bool true) w) := by
  have HAL := Lib.hid hal
  have HI := Lib.hid hins
  have HXS := Lib.hid hxs
  have HXL := Lib.hid hxl
  clear hal hins hxs hxl
  have g1 : decide ((20 : Int) < (ls.length : Int)) = false := by simp; omega
  have g2 : decide ((60 : Int) < (nx : Int)) = false := by simp; omega
  go_enter Try.func4, Try.ntmps4
  go_wp2_with fail
  refine (known_any _).mono ?_
  rintro e w1 ⟨rfl, hw1⟩
  have HW1 := Lib.hid hw1
  clear hw1
  go_wp2_with fail
  refine (new_any _).mono ?_
  rintro e w2 ⟨bp, rfl, hbp, hm⟩
  have HM := Lib.hid (hm.of_new HW1.out)
  clear hm hbp
  go_wp2_with fail
  have HH0 := Lib.hid (show Held w (w2.alloc (.cells (manyOf []) 47)) w2.heap.size bp ls (List.range 0) from
    ⟨HM.out.keep _, Blk.new w2 47 _, fun j hj => by simp at hj, HM.out.world.size⟩)
  obtain ⟨PM, hPM⟩ : ∃ PM, PM = w2.heap.size := ⟨_, rfl⟩
  rw [← hPM] at HH0 ⊢
  have HPM := Lib.hid hPM
  clear hPM
  have HLL := Lib.hid hl
  have HXX := Lib.hid hx
  go_loopw [7] (fun i wr => ∃ k : Nat, k ≤ ls.length ∧ i = .int .i64 k ∧ Held w wr PM bp ls (List.range k)) (fun i _ => ls.length - (intOf i).toNat)
  case atStart => exact ⟨0, Nat.zero_le _, rfl, HH0.out⟩
  case round =>
    obtain ⟨k, hk, rfl, hH⟩ := hrel
    have HH := Lib.hid hH
    clear hH HH0
    by_cases hlt : k < ls.length
    · have hal := HAL.out (by omega)
      subst hal
      obtain ⟨e, he⟩ : ∃ e, ls[k]? = some e := ⟨_, List.getElem?_eq_getElem hlt⟩
      obtain ⟨c1, c2, c3⟩ := HI.out.below HH.out.1.world k e he
      have hpw : pw ls k = ⟨k, (k : Int) + 1, e.b⟩ := by unfold pw; rw [he]; rfl
      have C2 := Lib.hid c2
      have C3 := Lib.hid c3
      have HPW := Lib.hid hpw
      have i0 : (0 : Int) ≤ (k : Int) := by omega
      have i1 : (k : Int) < (ls.length : Int) := by omega
      have i2 : (k : Int) < 20 := by have := HLL.out; omega
      clear c2 c3 hpw he
      go_wp2_with fail
      refine (HH.out.1.send (by simp; have := HLL.out; omega) ⟨k, (k : Int) + 1, e.b⟩ C2.out rfl C3.out).mono ?_
      rintro e' wa ⟨rfl, hm, hp⟩
      have HMa := Lib.hid hm
      have HPa := Lib.hid ((hp PM (by simp)).trans HH.out.2.1)
      have b0 := (Blk.cell HPa.out k).trans (manyOf_get _ k (by omega))
      have bf := Blk.frozen HPa.out k
      rw [List.count_eq_zero_of_not_mem (by simp)] at b0
      clear hm hp c1
      go_wp2_with fail
      go_roundw
      case rel => exact ⟨k + 1, by omega, by go_num, held_sent HMa.out HPa.out HPW.out HH.out.2.2.2 hlt⟩
      case measure => simp [intOf]; omega
    · obtain rfl : k = ls.length := by omega
      obtain ⟨wo, rfl⟩ : ∃ wo : World, wo = wr := ⟨_, rfl⟩
      go_wp2_with fail
      go_loopw [8] (fun i wr => ∃ (k : Nat) (idx : List Nat), k ≤ nx ∧ i = .int .i64 k ∧ idx.length ≤ ls.length + k ∧ Held w wr PM bp ls idx) (fun i _ => nx - (intOf i).toNat)
      case atStart => exact ⟨0, List.range ls.length, Nat.zero_le _, rfl, by simp, HH.out⟩
      case round =>
        obtain ⟨k, idx, hk, rfl, hil, hH⟩ := hrel
        have HH2 := Lib.hid hH
        clear hH HH
        by_cases hc : k < nx ∧ 0 < idx.length
        · obtain ⟨hlt, hpos⟩ := hc
          obtain ⟨v, hv⟩ : ∃ v, xs[k]? = some v := ⟨_, List.getElem?_eq_getElem (by rw [HXL.out]; exact hlt)⟩
          obtain ⟨xb, xo, hAX, hcell, v0, v1⟩ := HXS.out k v hv
          subst hAX
          have hcx := (HH2.out.1.world.cell (p := ⟨xb, xo + k, none⟩) (block_lt_of_cell hcell)).trans hcell
          have hlen : (idx.map (pw ls)).length = idx.length := List.length_map _
          have HLEN := Lib.hid hlen
          have i0 : (0 : Int) ≤ (k : Int) := by omega
          have i1 : (k : Int) < (nx : Int) := by omega
          have i2 : (0 : Int) < (idx.length : Int) := by omega
          have i3 : (idx.length : Int) ≤ 80 := by have := HLL.out; have := HXX.out; omega
          have HPOS := Lib.hid hpos
          have HCE := Lib.hid hcell
          clear hv hlen hpos hcell
          go_wp2_with (go_at_call 9; refine (HH2.out.1.len).mono ?_; rintro e w' ⟨rfl, rfl⟩; rw [HLEN.out])

          go_quiet ((go_at_call 9; exact Calls.quiet_of_same ((HH2.out.1.drewN _).len.mono fun e w' ⟨h1, h2⟩ => ⟨by rw [h1, HLEN.out], h2.symm⟩)))
          go_wp2_with fail
          obtain ⟨at_, hat, hal⟩ := pick_at (bits .and .u32 (v / 256) 1023) idx.length (and_bd (v / 256) 1023 (by omega) (by omega) (by omega) (by omega)).1 (and_bd (v / 256) 1023 (by omega) (by omega) (by omega) (by omega)).2 i2
          rw [hat]
          have HQ := Lib.hid (HH2.out.below (below_drewN (Below.refl _ _) nq))
          have hcx : (wr.drewN nq).cell? ⟨xb, xo + k, none⟩ = some (.int .u32 v) := hcx
          generalize wr.drewN nq = wq at HQ hcx ⊢
          obtain ⟨j, hj⟩ : ∃ j, idx[at_]? = some j := ⟨_, List.getElem?_eq_getElem (by omega)⟩
          have hjl := HQ.out.2.2.1 j (List.mem_of_getElem? hj)
          have hal := HAL.out (by omega)
          subst hal
          obtain ⟨e, he⟩ : ∃ e, ls[j]? = some e := ⟨_, List.getElem?_eq_getElem hjl⟩
          have hpw : pw ls j = ⟨j, (j : Int) + 1, e.b⟩ := by unfold pw; rw [he]; rfl
          have hL : (idx.map (pw ls))[at_]? = some ⟨j, (j : Int) + 1, e.b⟩ := by rw [List.getElem?_map, hj, ← hpw]; rfl
          have HL := Lib.hid hL
          have HJ := Lib.hid hj
          have HE := Lib.hid he
          have HPW := Lib.hid hpw
          clear hat hL hj he hpw HH2
          refine (HQ.out.1.at_ HL.out).mono ?_
          rintro e1 wt ⟨gt, rfl, hbt, hgt, hwt⟩
          simp only
          have HT := Lib.hid ((HQ.out.below hwt).below ((Below.refl _ _).alloc (Nat.le_refl _) (.cells #[.int .i64 j, .int .i64 ((j : Int) + 1), .slice (some ⟨gt, 0, none⟩) e.b.length e.b.length] 32)))
          have HPB := Lib.hid (Blk.new wt 32 #[.int .i64 j, .int .i64 ((j : Int) + 1), .slice (some ⟨gt, 0, none⟩) e.b.length e.b.length])
          have HGT := Lib.hid (hbt.alloc (.cells #[.int .i64 j, .int .i64 ((j : Int) + 1), .slice (some ⟨gt, 0, none⟩) e.b.length e.b.length] 32))
          have HXC := Lib.hid (show (wt.alloc (.cells #[.int .i64 j, .int .i64 ((j : Int) + 1), .slice (some ⟨gt, 0, none⟩) e.b.length e.b.length] 32)).cell? ⟨xb, xo + k, none⟩ = some (.int .u32 v) from
            (World.cell?_alloc_lt _ _ _ (Nat.lt_of_lt_of_le (block_lt_of_cell hcx) hwt.size)).trans ((hwt.cell (block_lt_of_cell hcx)).trans hcx))
          have HTK := Lib.hid ((HQ.out.1.keepNew hwt hgt hbt.lt).keep (.cells #[.int .i64 j, .int .i64 ((j : Int) + 1), .slice (some ⟨gt, 0, none⟩) e.b.length e.b.length] 32))
          have HPM1 := Lib.hid (show wt.heap.size ≠ PM from fun h => by have h1 := (HQ.out.below hwt).2.1.lt; omega)
          have HB0 := Lib.hid (show w.heap.size ≤ wt.heap.size from (HQ.out.below hwt).1.world.size)
          clear hcx hbt hgt hwt HQ
          go_wp2_with fail
          obtain ⟨PT, hPT⟩ : ∃ PT, PT = wt.heap.size := ⟨_, rfl⟩
          rw [← hPT] at HPB HPM1 HB0 HTK ⊢
          clear hPT
          generalize wt.alloc (.cells #[.int .i64 j, .int .i64 ((j : Int) + 1), .slice (some ⟨gt, 0, none⟩) e.b.length e.b.length] 32) = W at HT HPB HGT HXC HTK ⊢
          have HEI := Lib.hid (HI.out.below HT.out.1.world j e HE.out)
          have HS := Lib.hid (show ∀ w' : World, Below W.heap.size W w' → (w'.cell? ⟨PT, 0, none⟩ = some (.int .i64 j) ∧ w'.cell? ⟨PT, 1, none⟩ = some (.int .i64 ((j : Int) + 1)) ∧ w'.cell? ⟨PT, 2, none⟩ = some (.slice (some ⟨gt, 0, none⟩) e.b.length e.b.length) ∧ w'.cell? ⟨lb, lo + j, none⟩ = some (.slice e.A e.b.length e.c)) from fun w' hw' => by
            have b := HPB.out.below hw' HPB.out.lt
            have c := HEI.out.1
            exact ⟨b.cell 0, b.cell 1, b.cell 2, (hw'.cell (block_lt_of_cell c)).trans c⟩)
          have HK1 := Lib.hid (Below.refl W.heap.size W).drew
          have wr1 : IntKind.i64.wrap ((j : Int) + 1) = (j : Int) + 1 := IntWalk.i64_in _ (by have := HLL.out; omega)
          have j0 : (0 : Int) ≤ (j : Int) := by omega
          have j1 : (j : Int) < (ls.length : Int) := by omega
          have j2 : decide ((j : Int) < 0) = false := by simp
          have j3 : decide (ls.length ≤ j) = false := by simp; omega
          go_region_held3 (fun w' => w'.cell? ⟨PT, 0, none⟩ = some (.int .i64 j) ∧ w'.cell? ⟨PT, 1, none⟩ = some (.int .i64 ((j : Int) + 1)) ∧ w'.cell? ⟨PT, 2, none⟩ = some (.slice (some ⟨gt, 0, none⟩) e.b.length e.b.length) ∧ w'.cell? ⟨lb, lo + j, none⟩ = some (.slice e.A e.b.length e.c))
            (first | exact HS.out _ HK1.out | exact HS.out _ HK2.out | fail)
            (first
              | (go_at_call 14; refine (same_yes _ _ _ _ _ _ _ e.b _ ?_ ?_ rfl).mono ?_; (exact Blk.bts HGT.out.drew); (exact HEI.out.2.1.below' HK1.out); rintro e1 w8 ⟨rfl, hw8⟩; have HK2 := Lib.hid (HK1.out.trans hw8); clear hw8))
          have HT2 := Lib.hid (HT.out.below HK2.out)
          have HTK2 := Lib.hid (HTK.out.below HK2.out)
          have HPB2 := Lib.hid (HPB.out.below HK2.out HPB.out.lt)
          have HXC2 := Lib.hid ((HK2.out.cell (p := ⟨xb, xo + k, none⟩) (block_lt_of_cell HXC.out)).trans HXC.out)
          have HGT2 := Lib.hid (HGT.out.below HK2.out HGT.out.lt)
          clear wr1 HS HK1 HT HTK HPB HXC HGT HK2
          have x0 := HXC2.out
          have m0 := and_bd v 3 v0 v1 (by omega) (by omega)
          generalize hm : bits BinOp.and IntKind.u32 v 3 = m at m0
          by_cases q0 : (m == 0) = true
          · go_wp2_with fail
            refine (HTK2.out.take (by have := HLEN.out; omega) HL.out).mono ?_
            rintro e1 wk ⟨A, n, c, rfl, hn, hb, hmk, hp⟩
            simp only at hn
            subst hn
            have HMK := Lib.hid hmk
            have HPK := Lib.hid (show Blk wk PT 32 _ from (hp PT (by simp)).trans HPB2.out)
            have HMB := Lib.hid (show Blk wk PM 47 _ from (hp PM (by simp)).trans HT2.out.2.1)
            have HGK := Lib.hid (show Blk wk gt 5 _ from (hp gt (by simp)).trans HGT2.out)
            have HBQ := Lib.hid hb
            have p0 := HPK.out.cell 0
            have p1 := HPK.out.cell 1
            have p2 := HPK.out.cell 2
            have pl := HPK.out.lt
            simp at p0 p1 p2
            clear hmk hp hb x0
            go_wp2_with fail
            refine (same_yes _ _ _ _ _ _ _ e.b _ (HGK.out.alloc _).bts (HBQ.out.below' ((Below.refl _ _).alloc (Nat.le_refl _) _)) rfl).mono ?_
            rintro e1 ws ⟨rfl, hws⟩
            have hwk := ((Below.refl wk.heap.size wk).alloc (Nat.le_refl _) (.cells #[.int .i64 j, .int .i64 ((j : Int) + 1), .slice A e.b.length c] 32)).trans (hws.mono (by simp))
            have HMS := Lib.hid (HMK.out.below hwk)
            have HMBS := Lib.hid (HMB.out.below hwk HMB.out.lt)
            have s0 := (hwk.cell (p := ⟨PT, 0, none⟩) HPK.out.lt).trans p0
            have b0 := (HMBS.out.cell j).trans (manyOf_get idx j (by have := HLL.out; omega))
            have bf := HMBS.out.frozen j
            have j20 : (j : Int) < 20 := by have := HLL.out; omega
            have cc : (1 : Int) ≤ ((idx.count j : Nat) : Int) := by have := List.count_pos_iff.2 (List.mem_of_getElem? HJ.out); omega
            have cd : ((idx.count j : Nat) : Int) ≤ 80 := by have := List.count_le_length (a := j) (l := idx); omega
            clear hws hwk p0 p1 p2 pl
            generalize hcnt : idx.count j = cnt at b0 cc cd
            have HCNT := Lib.hid hcnt
            clear hcnt
            go_wp2_with fail
            go_roundw
            case rel => exact ⟨k + 1, idx.eraseIdx at_, by omega, by go_num, by rw [List.length_eraseIdx]; split <;> omega, held_taken HMS.out (by simp) HMBS.out HJ.out HT2.out.2.2.1 HT2.out.2.2.2 _ (by rw [HCNT.out])⟩
            case measure => simp [intOf]; omega
          · have q0' : (m == 0) = false := by simpa using q0
            clear q0
            by_cases q1 : (m == 1) = true
            · go_wp2_with fail
              refine (HTK2.out.double (by have := HLEN.out; omega) HL.out).mono ?_
              rintro e1 wk ⟨rfl, hmk, hp⟩
              have HMK := Lib.hid hmk
              have HPK := Lib.hid (show Blk wk PT 32 _ from (hp PT (by simp)).trans HPB2.out)
              have HMB := Lib.hid (show Blk wk PM 47 _ from (hp PM (by simp)).trans HT2.out.2.1)
              have p0 := HPK.out.cell 0
              simp at p0
              have b0 := (HMB.out.cell j).trans (manyOf_get idx j (by have := HLL.out; omega))
              have bf := HMB.out.frozen j
              have j20 : (j : Int) < 20 := by have := HLL.out; omega
              have cc : (0 : Int) ≤ ((idx.count j : Nat) : Int) := by omega
              have cd : ((idx.count j : Nat) : Int) ≤ 80 := by have := List.count_le_length (a := j) (l := idx); omega
              generalize hcnt : idx.count j = cnt at b0 cc cd
              have HCNT := Lib.hid hcnt
              clear hmk hp x0 hcnt
              go_wp2_with fail
              go_roundw
              case rel => exact ⟨k + 1, idx ++ [j], by omega, by go_num, by rw [List.length_append]; simp; omega, held_doubled HMK.out HPW.out (by simp) HMB.out hjl HT2.out.2.2.1 HT2.out.2.2.2 _ (by rw [HCNT.out])⟩
              case measure => simp [intOf]; omega
            · have q1' : (m == 1) = false := by simpa using q1
              clear q1
              go_wp2_with fail
              obtain ⟨d, hd, hdl⟩ : ∃ d : Nat, (v / 262144).tmod (idx.length : Int) = d ∧ d < idx.length := by
                have h1 := Int.tmod_nonneg (idx.length : Int) (show 0 ≤ v / 262144 by omega)
                have h2 := Int.tmod_lt_of_pos (v / 262144) i2
                exact ⟨((v / 262144).tmod (idx.length : Int)).toNat, by omega, by omega⟩
              obtain ⟨j', hj'⟩ : ∃ j', idx[d]? = some j' := ⟨_, List.getElem?_eq_getElem hdl⟩
              have hL' : (idx.map (pw ls))[d]? = some (pw ls j') := by rw [List.getElem?_map, hj']; rfl
              have HL' := Lib.hid hL'
              have HJ' := Lib.hid hj'
              have wr2 : IntKind.i64.wrap (v / 262144) = v / 262144 := IntWalk.i64_in _ (by omega)
              have wr3 : IntKind.i64.wrap (d : Int) = (d : Int) := IntWalk.i64_in _ (by have := HLL.out; have := HXX.out; omega)
              have hne : ¬ idx = [] := fun h => by rw [h] at hdl; simp at hdl
              have hne' : ((idx.length : Int) == 0) = false := by simp; omega
              have wr4 : IntKind.u32.wrap (v / 262144) = v / 262144 := by rw [IntKind.wrap_u32']; omega
              have HLC := Lib.hid (fun (w' : World) (hw' : Mine w [PT, gt, PM] w' bp (idx.map (pw ls))) => hw'.len.mono fun e w'' (h : e = .returned (.int .i64 (idx.map (pw ls)).length) ∧ w' = w'') => (show e = .returned (.int .i64 idx.length) ∧ w' = w'' from ⟨by rw [h.1, HLEN.out], h.2⟩))
              have HTKd := Lib.hid (HTK2.out.below (Below.refl _ _).drew)
              have HXd := Lib.hid (show w8.drew.cell? ⟨xb, xo + k, none⟩ = some (.int .u32 v) from x0)
              clear hj' hL'
              go_region_held3 (fun w' => w'.cell? ⟨xb, xo + k, none⟩ = some (.int .u32 v))
                (first | exact HXd.out | exact HXk.out | fail)
                (first
                  | (go_at_call 9; refine (HLC.out _ HTKd.out).mono ?_; rintro e1 w' ⟨rfl, rfl⟩)
                  | (go_at_call 17; refine (HTKd.out.swap (i := at_) (j := d) HL.out HL'.out).mono ?_; rintro e1 wk ⟨rfl, hmk, hp⟩; have HMK := Lib.hid hmk; have HMB := Lib.hid (show Blk wk PM 47 _ from (hp PM (by simp)).trans HT2.out.2.1); have HXk := Lib.hid ((hmk.world.cell (p := ⟨xb, xo + k, none⟩) (block_lt_of_cell HCE.out)).trans HCE.out); clear hmk hp))
              clear wr2 wr3 wr4 hne hne' hd x0
              go_wp2_with fail
              go_roundw
              case rel => exact ⟨k + 1, (idx.set at_ j').set d j, by omega, by go_num, by simp only [List.length_set]; omega, held_swapped HMK.out HPW.out rfl (by simp) HMB.out HJ.out HJ'.out HT2.out.2.2.1 HT2.out.2.2.2⟩
              case measure => simp [intOf]; omega
        · have hkk : ¬ k < nx ∨ idx.length = 0 := by omega
          have HKK := Lib.hid hkk
          have hlen : (idx.map (pw ls)).length = idx.length := List.length_map _
          have HLEN := Lib.hid hlen
          clear hkk hlen hc
          by_cases hlt : k < nx
          · have hz : idx.length = 0 := HKK.out.resolve_left (fun h => h hlt)
            have hz' : decide ((0 : Int) < (idx.length : Int)) = false := by simp [hz]
            have hz2 : decide (0 < idx.length) = false := by simp [hz]
            clear hz
            go_wp2_with (go_at_call 9; refine (HH2.out.1.len).mono ?_; rintro e w' ⟨rfl, rfl⟩; rw [HLEN.out])
            obtain ⟨wq, rfl⟩ : ∃ wq : World, wq = wr := ⟨_, rfl⟩
            go_loopg [15] idx.length (fun g s15 wr => s15 = s15 ∧ ∃ idx' : List Nat, idx'.length = g ∧ idx'.length ≤ 80 ∧ Held w wr PM bp ls idx')
            case atStart => exact ⟨rfl, idx, rfl, by have := HLL.out; have := HXX.out; omega, HH2.out⟩
            case round =>
              obtain ⟨_, id3, hg3, h80, hH3⟩ := hrel
              have HH3 := Lib.hid hH3
              have HG3 := Lib.hid hg3
              have H80 := Lib.hid h80
              have hlen3 : (id3.map (pw ls)).length = id3.length := List.length_map _
              have HLEN3 := Lib.hid hlen3
              clear hH3 hg3 hlen3 h80
              by_cases hpos : 0 < id3.length
              · have i2 : (0 : Int) < (id3.length : Int) := by omega
                obtain ⟨j, hj⟩ : ∃ j, id3[0]? = some j := ⟨_, List.getElem?_eq_getElem hpos⟩
                have hjl := HH3.out.2.2.1 j (List.mem_of_getElem? hj)
                have hal := HAL.out (by omega)
                subst hal
                obtain ⟨e, he⟩ : ∃ e, ls[j]? = some e := ⟨_, List.getElem?_eq_getElem hjl⟩
                have hpw : pw ls j = ⟨j, (j : Int) + 1, e.b⟩ := by unfold pw; rw [he]; rfl
                have hL : (id3.map (pw ls))[0]? = some ⟨j, (j : Int) + 1, e.b⟩ := by rw [List.getElem?_map, hj, ← hpw]; rfl
                have HL := Lib.hid hL
                have HJ := Lib.hid hj
                have HE := Lib.hid he
                clear hL hj he hpw
                go_wp2_with (go_at_call 9; refine (HH3.out.1.len).mono ?_; rintro e w' ⟨rfl, rfl⟩; rw [HLEN3.out])
                refine (HH3.out.1.take (by have := HLEN3.out; have := H80.out; omega) HL.out).mono ?_
                rintro e1 wk ⟨A, n, c, rfl, hn, hb, hmk, hp⟩
                simp only at hn
                subst hn
                have HTK := Lib.hid (hmk.alloc (.cells #[.int .i64 j, .int .i64 ((j : Int) + 1), .slice A e.b.length c] 32))
                have HMB := Lib.hid ((show Blk wk PM 47 _ from (hp PM (by simp)).trans HH3.out.2.1).alloc (.cells #[.int .i64 j, .int .i64 ((j : Int) + 1), .slice A e.b.length c] 32))
                have HBQ := Lib.hid (hb.below' ((Below.refl _ _).alloc (Nat.le_refl _) (.cells #[.int .i64 j, .int .i64 ((j : Int) + 1), .slice A e.b.length c] 32)))
                have HPB := Lib.hid (Blk.new wk 32 #[.int .i64 j, .int .i64 ((j : Int) + 1), .slice A e.b.length c])
                clear hmk hp hb
                go_wp2_with fail
                obtain ⟨PT, hPT⟩ : ∃ PT, PT = wk.heap.size := ⟨_, rfl⟩
                rw [← hPT] at HPB ⊢
                clear hPT
                generalize wk.alloc (.cells #[.int .i64 j, .int .i64 ((j : Int) + 1), .slice A e.b.length c] 32) = W at HTK HMB HBQ HPB ⊢
                have HEI := Lib.hid (HI.out.below HTK.out.world j e HE.out)
                have HS := Lib.hid (show ∀ w' : World, Below W.heap.size W w' → (w'.cell? ⟨PT, 0, none⟩ = some (.int .i64 j) ∧ w'.cell? ⟨PT, 1, none⟩ = some (.int .i64 ((j : Int) + 1)) ∧ w'.cell? ⟨PT, 2, none⟩ = some (.slice A e.b.length c) ∧ w'.cell? ⟨lb, lo + j, none⟩ = some (.slice e.A e.b.length e.c)) from fun w' hw' => by
                  have b := HPB.out.below hw' HPB.out.lt
                  have c := HEI.out.1
                  exact ⟨b.cell 0, b.cell 1, b.cell 2, (hw'.cell (block_lt_of_cell c)).trans c⟩)
                have HK1 := Lib.hid (Below.refl W.heap.size W).drew
                have wr1 : IntKind.i64.wrap ((j : Int) + 1) = (j : Int) + 1 := IntWalk.i64_in _ (by have := HLL.out; omega)
                have j0 : (0 : Int) ≤ (j : Int) := by omega
                have j1 : (j : Int) < (ls.length : Int) := by omega
                have j2 : decide ((j : Int) < 0) = false := by simp
                have j3 : decide (ls.length ≤ j) = false := by simp; omega
                go_region_held3 (fun w' => w'.cell? ⟨PT, 0, none⟩ = some (.int .i64 j) ∧ w'.cell? ⟨PT, 1, none⟩ = some (.int .i64 ((j : Int) + 1)) ∧ w'.cell? ⟨PT, 2, none⟩ = some (.slice A e.b.length c) ∧ w'.cell? ⟨lb, lo + j, none⟩ = some (.slice e.A e.b.length e.c))
                  (first | exact HS.out _ HK1.out | exact HS.out _ HK2.out | fail)
                  (first
                    | (go_at_call 14; refine (same_yes _ _ _ _ _ _ _ e.b _ ?_ ?_ rfl).mono ?_; (exact HBQ.out.below' HK1.out); (exact HEI.out.2.1.below' HK1.out); rintro e1 w8 ⟨rfl, hw8⟩; have HK2 := Lib.hid (HK1.out.trans hw8); clear hw8))
                have HMS := Lib.hid (HTK.out.below HK2.out)
                have HMBS := Lib.hid (HMB.out.below HK2.out HMB.out.lt)
                have s0 := (HS.out _ HK2.out).1
                have b0 := (HMBS.out.cell j).trans (manyOf_get id3 j (by have := HLL.out; omega))
                have bf := HMBS.out.frozen j
                have j20 : (j : Int) < 20 := by have := HLL.out; omega
                have cc : (1 : Int) ≤ ((id3.count j : Nat) : Int) := by have := List.count_pos_iff.2 (List.mem_of_getElem? HJ.out); omega
                have cd : ((id3.count j : Nat) : Int) ≤ 80 := by have := List.count_le_length (a := j) (l := id3); have := H80.out; omega
                have hne : PT ≠ PM := fun h => by have h1 := HPB.out; rw [h] at h1; exact absurd (h1.same HMB.out).2 (by decide)
                generalize hcnt : id3.count j = cnt at b0 cc cd
                have HCNT := Lib.hid hcnt
                clear hcnt wr1 HS HK1 HTK HMB HPB HBQ HK2
                have cn : ¬ ((cnt : Int) - 1 < 0) := by omega
                go_wp2_with fail
                go_roundg (id3.eraseIdx 0).length
                case measure => rw [List.length_eraseIdx, if_pos hpos]; have := HG3.out; omega
                case rel => exact ⟨trivial, id3.eraseIdx 0, rfl, by rw [List.length_eraseIdx, if_pos hpos]; have := H80.out; omega, held_taken HMS.out (by simp) HMBS.out HJ.out HH3.out.2.2.1 HH3.out.2.2.2 _ (by rw [HCNT.out])⟩
              · have hz : id3 = [] := List.eq_nil_of_length_eq_zero (by omega)
                subst hz
                have heq := eq20
                have HBZ := Lib.hid (show wr.heap[PM]? = some (.cells #[.int .i64 0, .int .i64 0, .int .i64 0, .int .i64 0, .int .i64 0, .int .i64 0, .int .i64 0, .int .i64 0, .int .i64 0, .int .i64 0, .int .i64 0, .int .i64 0, .int .i64 0, .int .i64 0, .int .i64 0, .int .i64 0, .int .i64 0, .int .i64 0, .int .i64 0, .int .i64 0] 47 (0, 0)) from HH3.out.2.1)
                go_wp2_with (first
                  | (go_at_call 9; refine (HH3.out.1.len).mono ?_; rintro e w' ⟨rfl, rfl⟩)
                  | (refine wpList_load_row rfl 47 (.tmp 6) rfl PM ?hx 47 #[.int .i64 0, .int .i64 0, .int .i64 0, .int .i64 0, .int .i64 0, .int .i64 0, .int .i64 0, .int .i64 0, .int .i64 0, .int .i64 0, .int .i64 0, .int .i64 0, .int .i64 0, .int .i64 0, .int .i64 0, .int .i64 0, .int .i64 0, .int .i64 0, .int .i64 0, .int .i64 0] (0, 0) _ HBZ.out Try.underlying47 rfl size47 ?_
                     case hx => first | (go_simp; done) | (go_simp; rfl)))
                go_ret
                exact ⟨rfl, HH3.out.1.world⟩
          · go_wp2_with (go_at_call 9; refine (HH2.out.1.len).mono ?_; rintro e w' ⟨rfl, rfl⟩; rw [HLEN.out])
            obtain ⟨wq, rfl⟩ : ∃ wq : World, wq = wr := ⟨_, rfl⟩
            go_loopg [15] idx.length (fun g s15 wr => s15 = s15 ∧ ∃ idx' : List Nat, idx'.length = g ∧ idx'.length ≤ 80 ∧ Held w wr PM bp ls idx')
            case atStart => exact ⟨rfl, idx, rfl, by have := HLL.out; have := HXX.out; omega, HH2.out⟩
            case round =>
              obtain ⟨_, id3, hg3, h80, hH3⟩ := hrel
              have HH3 := Lib.hid hH3
              have HG3 := Lib.hid hg3
              have H80 := Lib.hid h80
              have hlen3 : (id3.map (pw ls)).length = id3.length := List.length_map _
              have HLEN3 := Lib.hid hlen3
              clear hH3 hg3 hlen3 h80
              by_cases hpos : 0 < id3.length
              · have i2 : (0 : Int) < (id3.length : Int) := by omega
                obtain ⟨j, hj⟩ : ∃ j, id3[0]? = some j := ⟨_, List.getElem?_eq_getElem hpos⟩
                have hjl := HH3.out.2.2.1 j (List.mem_of_getElem? hj)
                have hal := HAL.out (by omega)
                subst hal
                obtain ⟨e, he⟩ : ∃ e, ls[j]? = some e := ⟨_, List.getElem?_eq_getElem hjl⟩
                have hpw : pw ls j = ⟨j, (j : Int) + 1, e.b⟩ := by unfold pw; rw [he]; rfl
                have hL : (id3.map (pw ls))[0]? = some ⟨j, (j : Int) + 1, e.b⟩ := by rw [List.getElem?_map, hj, ← hpw]; rfl
                have HL := Lib.hid hL
                have HJ := Lib.hid hj
                have HE := Lib.hid he
                clear hL hj he hpw
                go_wp2_with (go_at_call 9; refine (HH3.out.1.len).mono ?_; rintro e w' ⟨rfl, rfl⟩; rw [HLEN3.out])
                refine (HH3.out.1.take (by have := HLEN3.out; have := H80.out; omega) HL.out).mono ?_
                rintro e1 wk ⟨A, n, c, rfl, hn, hb, hmk, hp⟩
                simp only at hn
                subst hn
                have HTK := Lib.hid (hmk.alloc (.cells #[.int .i64 j, .int .i64 ((j : Int) + 1), .slice A e.b.length c] 32))
                have HMB := Lib.hid ((show Blk wk PM 47 _ from (hp PM (by simp)).trans HH3.out.2.1).alloc (.cells #[.int .i64 j, .int .i64 ((j : Int) + 1), .slice A e.b.length c] 32))
                have HBQ := Lib.hid (hb.below' ((Below.refl _ _).alloc (Nat.le_refl _) (.cells #[.int .i64 j, .int .i64 ((j : Int) + 1), .slice A e.b.length c] 32)))
                have HPB := Lib.hid (Blk.new wk 32 #[.int .i64 j, .int .i64 ((j : Int) + 1), .slice A e.b.length c])
                clear hmk hp hb
                go_wp2_with fail
                obtain ⟨PT, hPT⟩ : ∃ PT, PT = wk.heap.size := ⟨_, rfl⟩
                rw [← hPT] at HPB ⊢
                clear hPT
                generalize wk.alloc (.cells #[.int .i64 j, .int .i64 ((j : Int) + 1), .slice A e.b.length c] 32) = W at HTK HMB HBQ HPB ⊢
                have HEI := Lib.hid (HI.out.below HTK.out.world j e HE.out)
                have HS := Lib.hid (show ∀ w' : World, Below W.heap.size W w' → (w'.cell? ⟨PT, 0, none⟩ = some (.int .i64 j) ∧ w'.cell? ⟨PT, 1, none⟩ = some (.int .i64 ((j : Int) + 1)) ∧ w'.cell? ⟨PT, 2, none⟩ = some (.slice A e.b.length c) ∧ w'.cell? ⟨lb, lo + j, none⟩ = some (.slice e.A e.b.length e.c)) from fun w' hw' => by
                  have b := HPB.out.below hw' HPB.out.lt
                  have c := HEI.out.1
                  exact ⟨b.cell 0, b.cell 1, b.cell 2, (hw'.cell (block_lt_of_cell c)).trans c⟩)
                have HK1 := Lib.hid (Below.refl W.heap.size W).drew
                have wr1 : IntKind.i64.wrap ((j : Int) + 1) = (j : Int) + 1 := IntWalk.i64_in _ (by have := HLL.out; omega)
                have j0 : (0 : Int) ≤ (j : Int) := by omega
                have j1 : (j : Int) < (ls.length : Int) := by omega
                have j2 : decide ((j : Int) < 0) = false := by simp
                have j3 : decide (ls.length ≤ j) = false := by simp; omega
                go_region_held3 (fun w' => w'.cell? ⟨PT, 0, none⟩ = some (.int .i64 j) ∧ w'.cell? ⟨PT, 1, none⟩ = some (.int .i64 ((j : Int) + 1)) ∧ w'.cell? ⟨PT, 2, none⟩ = some (.slice A e.b.length c) ∧ w'.cell? ⟨lb, lo + j, none⟩ = some (.slice e.A e.b.length e.c))
                  (first | exact HS.out _ HK1.out | exact HS.out _ HK2.out | fail)
                  (first
                    | (go_at_call 14; refine (same_yes _ _ _ _ _ _ _ e.b _ ?_ ?_ rfl).mono ?_; (exact HBQ.out.below' HK1.out); (exact HEI.out.2.1.below' HK1.out); rintro e1 w8 ⟨rfl, hw8⟩; have HK2 := Lib.hid (HK1.out.trans hw8); clear hw8))
                have HMS := Lib.hid (HTK.out.below HK2.out)
                have HMBS := Lib.hid (HMB.out.below HK2.out HMB.out.lt)
                have s0 := (HS.out _ HK2.out).1
                have b0 := (HMBS.out.cell j).trans (manyOf_get id3 j (by have := HLL.out; omega))
                have bf := HMBS.out.frozen j
                have j20 : (j : Int) < 20 := by have := HLL.out; omega
                have cc : (1 : Int) ≤ ((id3.count j : Nat) : Int) := by have := List.count_pos_iff.2 (List.mem_of_getElem? HJ.out); omega
                have cd : ((id3.count j : Nat) : Int) ≤ 80 := by have := List.count_le_length (a := j) (l := id3); have := H80.out; omega
                have hne : PT ≠ PM := fun h => by have h1 := HPB.out; rw [h] at h1; exact absurd (h1.same HMB.out).2 (by decide)
                generalize hcnt : id3.count j = cnt at b0 cc cd
                have HCNT := Lib.hid hcnt
                clear hcnt wr1 HS HK1 HTK HMB HPB HBQ HK2
                have cn : ¬ ((cnt : Int) - 1 < 0) := by omega
                go_wp2_with fail
                go_roundg (id3.eraseIdx 0).length
                case measure => rw [List.length_eraseIdx, if_pos hpos]; have := HG3.out; omega
                case rel => exact ⟨trivial, id3.eraseIdx 0, rfl, by rw [List.length_eraseIdx, if_pos hpos]; have := H80.out; omega, held_taken HMS.out (by simp) HMBS.out HJ.out HH3.out.2.2.1 HH3.out.2.2.2 _ (by rw [HCNT.out])⟩
              · have hz : id3 = [] := List.eq_nil_of_length_eq_zero (by omega)
                subst hz
                have heq := eq20
                have HBZ := Lib.hid (show wr.heap[PM]? = some (.cells #[.int .i64 0, .int .i64 0, .int .i64 0, .int .i64 0, .int .i64 0, .int .i64 0, .int .i64 0, .int .i64 0, .int .i64 0, .int .i64 0, .int .i64 0, .int .i64 0, .int .i64 0, .int .i64 0, .int .i64 0, .int .i64 0, .int .i64 0, .int .i64 0, .int .i64 0, .int .i64 0] 47 (0, 0)) from HH3.out.2.1)
                go_wp2_with (first
                  | (go_at_call 9; refine (HH3.out.1.len).mono ?_; rintro e w' ⟨rfl, rfl⟩)
                  | (refine wpList_load_row rfl 47 (.tmp 6) rfl PM ?hx 47 #[.int .i64 0, .int .i64 0, .int .i64 0, .int .i64 0, .int .i64 0, .int .i64 0, .int .i64 0, .int .i64 0, .int .i64 0, .int .i64 0, .int .i64 0, .int .i64 0, .int .i64 0, .int .i64 0, .int .i64 0, .int .i64 0, .int .i64 0, .int .i64 0, .int .i64 0, .int .i64 0] (0, 0) _ HBZ.out Try.underlying47 rfl size47 ?_
                     case hx => first | (go_simp; done) | (go_simp; rfl)))
                go_ret
                exact ⟨rfl, HH3.out.1.world⟩
end Go.Proofs.Ytgepnglmhalomaa

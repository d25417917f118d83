/-
  Own text (the frame was written by the kit's proof-skeleton.mjs). PROVED: called with any []Act, newsreellaw30.NetPlays returns true, and the argument reads behind the call as it read before. CONDITIONS: none beside those of the given row.
-/
import Derived.Test.YtgepnglmhalomaaPlays
import Derived.Deep.Slices
import Derived.WalkKit
import Derived.ProofKit
import Derived.OpenShut
import Derived.ShutString
import Derived.ChangeOld
import Derived.Below
namespace Go.Proofs.Ytgepnglmhalomaa.netPlays
open Go.ChangeShapes Go.WideShapes Go.ChangeAt Go.RowKit
open Go.ChangeMaps (open_string shut_string)
set_option linter.unusedVariables false

theorem own : ownKnob Try.prog.godebug = none := by kernel_rfl
theorem laidOut : laidOutB Try.prog = true := by kernel_rfl

/-- WHAT THE WALK IS TOLD OF A SLICE OF INTEGERS THAT CAME IN: it is nil; or it leads to a row of 'cap' cells, the numbers 'zs' (the first 'len' are its elements, the rest its spare room), each fitting its kind. -/
def IsRow (k : IntKind) (w : World) (a : Option Addr) (len cap : Nat) (zs : List Int) : Prop :=
  (a = none ∧ len = 0 ∧ cap = 0 ∧ zs = []) ∨
  ∃ x, a = some x ∧ len ≤ cap ∧ cap ≤ maxLen ∧ zs.length = cap ∧ (∀ i, i < zs.length → w.cell? (x.add i) = some (.int k (zs.getD i 0))) ∧ ∀ n ∈ zs, (Lit.int k n).wf = true

theorem bts_of_row {w : World} {a : Option Addr} {len cap : Nat} {zs : List Int} (h : IsRow .u8 w a len cap zs) : ∃ bs : List UInt8, bs.length = len ∧ Bts w a bs ∧ len ≤ cap := by
  rcases h with ⟨rfl, rfl, rfl, rfl⟩ | ⟨x, rfl, hl, _, hz, hc, hw⟩
  · exact ⟨[], rfl, fun h => absurd h (by simp), Nat.le_refl _⟩
  · refine ⟨(zs.take len).map fun n => UInt8.ofNat n.toNat, by rw [List.length_map, List.length_take]; omega, fun _ => ⟨x, rfl, fun j u hj => ?_⟩, hl⟩
    have hjl := (List.getElem?_eq_some_iff.1 hj).1
    simp only [List.length_map, List.length_take] at hjl
    have hjz : j < zs.length := by omega
    rw [hc j hjz]
    rw [List.map_map, List.getElem?_map, List.getElem?_take_of_lt (by omega), List.getElem?_eq_getElem hjz] at hj
    injection hj with hj
    subst hj
    have hwf := hw zs[j] (List.getElem_mem hjz)
    have hb : 0 ≤ zs[j] ∧ zs[j] ≤ 255 := bounds_u8 hwf
    simp only [Function.comp, bval, List.getD_eq_getElem?_getD, List.getElem?_eq_getElem hjz, Option.getD_some, UInt8.toNat_ofNat']
    congr 3
    omega
theorem addr_of_bts {w : World} {x : Addr} {bs : List UInt8} (h : Bts w (some x) bs) (hp : 0 < bs.length) : x = ⟨x.block, x.off, none⟩ := by
  obtain ⟨ad, hA, hc⟩ := h hp
  injection hA with hA
  subst hA
  have := hc 0 (bval (bs[0]'hp)) (by rw [List.getElem?_map, List.getElem?_eq_getElem hp]; rfl)
  simp only [Addr.add, if_pos, World.cell?] at this
  split at this
  · rcases x with ⟨b, o, s⟩
    rcases s with _ | s
    · rfl
    · simp at this
  · cases this

set_option maxRecDepth 100000 in
set_option maxHeartbeats 1000000 in
theorem plays_long (A : Option Addr) (n c : Nat) (w : World) (h : 100 < n) : Calls Try.prog 3 #[.slice A n c] w (Quiet (.bool true) w) := by
  have g1 : decide ((100 : Int) < (n : Int)) = true := by simp; omega
  clear h
  go_enter Try.func3, Try.ntmps3
  go_wp2_with (go_at_call 6; refine (known_any _).mono ?_; rintro e w1 ⟨rfl, hw⟩; have HW := Lib.hid hw; clear hw)
  go_ret
  exact ⟨rfl, HW.out⟩

/-- WHAT THE WALK IS TOLD OF A SLICE OF ACTS THAT CAME IN. -/
def IsActs (w : World) (a : Option Addr) (len : Nat) (as_ : List ActV) : Prop := as_.length = len ∧ ∃ lb lo, (0 < len → a = some ⟨lb, lo, none⟩) ∧ Acts w lb lo as_

theorem walk (a0 : Option Addr) (len0 cap0 : Nat) (as_ : List ActV) (w : World) (w0 : IsActs w a0 len0 as_) :
    Calls Try.prog 3 #[.slice a0 len0 cap0] w fun e w' => e = .returned (.bool true) ∧ Below w.heap.size w w' := by
  obtain ⟨hl, lb, lo, hal, hac⟩ := w0
  by_cases h : 100 < len0
  · exact plays_long a0 len0 cap0 w h
  · subst hl
    exact plays_walk lb lo cap0 a0 as_ w hal hac (by omega)

theorem act_open {H : Type} {enc : TypeId × Value → H} {w : World} {n : Nat} {cs : List Value} {x : DataW H × List MemPlace} {a : Addr} (hc : w.cells? 0 a 7 = some cs) (h : DataW.trod enc Try.prog w 0 (fun _ => true) true n 34 cs = some x) :
    ∃ e : ActV, w.cell? (a.add 0) = some (.int .u8 e.wh) ∧ w.cell? (a.add 1) = some (.int .i64 e.i) ∧ w.cell? (a.add 2) = some (.int .i64 e.j) ∧ w.cell? (a.add 3) = some (.int .i64 e.by_) ∧
      w.cell? (a.add 4) = some (.int .i64 e.f) ∧ w.cell? (a.add 5) = some (.int .i64 e.t) ∧ w.cell? (a.add 6) = some (.slice e.A e.n e.c) ∧ (0 ≤ e.wh ∧ e.wh ≤ 255) ∧ Bts w e.A e.b ∧ e.b.length = e.n := by
  obtain ⟨_, hcl, hat⟩ := World.cells?_some hc
  obtain ⟨xs, m, _, _, _, hxl, hf⟩ := DataW.trod_struct Try.underlying34 h
  have c5 : Try.prog.cellsOf 5 = 1 := by kernel_rfl
  have c3 : Try.prog.cellsOf 3 = 1 := by kernel_rfl
  have c32 : Try.prog.cellsOf 32 = 3 := by kernel_rfl
  have c30 : Try.prog.cellsOf 30 = 1 := by kernel_rfl
  match cs, hcl with
  | [v0, v1, v2, v3, v4, v5, v6], _ =>
    match xs, hxl with
    | [y0, y1, y2, y3, y4], _ =>
      have f0 := hf 0 _ rfl
      have f1 := hf 1 _ rfl
      have f2 := hf 2 _ rfl
      have f3 := hf 3 _ rfl
      have f4 := hf 4 _ rfl
      simp [c5, c3, c32] at f0 f1 f2 f3 f4
      obtain ⟨n0, h0, _, b0⟩ := DataW.trod_int Try.underlying5 f0
      obtain ⟨n1, h1, _, _⟩ := DataW.trod_int Try.underlying3 f1
      obtain ⟨n2, h2, _, _⟩ := DataW.trod_int Try.underlying3 f2
      obtain ⟨n3, h3, _, _⟩ := DataW.trod_int Try.underlying3 f3
      obtain ⟨zs, m', _, _, _, hzl, hg⟩ := DataW.trod_struct Try.underlying32 f4
      match zs, hzl with
      | [z0, z1, z2], _ =>
        have g0 := hg 0 _ rfl
        have g1 := hg 1 _ rfl
        have g2 := hg 2 _ rfl
        simp [c3, c30] at g0 g1 g2
        obtain ⟨n4, h4, _, _⟩ := DataW.trod_int Try.underlying3 g0
        obtain ⟨n5, h5, _, _⟩ := DataW.trod_int Try.underlying3 g1
        simp only [List.cons.injEq, and_true] at h0 h1 h2 h3 h4 h5
        subst h0 h1 h2 h3 h4 h5
        have hb0 : 0 ≤ n0 ∧ n0 ≤ 255 := bounds_u8 b0
        obtain ⟨A, l, c, zz, hv, hz⟩ : ∃ A l c zz, v6 = .slice A l c ∧ IsRow .u8 w A l c zz := by
          rcases open_ints Try.underlying30 Try.underlying5 (by kernel_rfl) g2 with ⟨hcs, _⟩ | ⟨x, l, c, zz, hcs, _, hl, hm, hz, _, hcell, hwz⟩
          · simp only [List.cons.injEq, and_true] at hcs
            exact ⟨_, _, _, [], hcs, .inl ⟨rfl, rfl, rfl, rfl⟩⟩
          · simp only [List.cons.injEq, and_true] at hcs
            exact ⟨_, _, _, zz, hcs, .inr ⟨_, rfl, hl, hm, by simpa using hz, hcell, hwz⟩⟩
        subst hv
        obtain ⟨bs, hbl, hbt, _⟩ := bts_of_row hz
        exact ⟨⟨n0, n1, n2, n3, n4, n5, A, l, c, bs⟩, hat 0 (by omega), hat 1 (by omega), hat 2 (by omega), hat 3 (by omega), hat 4 (by omega), hat 5 (by omega), hat 6 (by omega), hb0, hbt, hbl⟩

theorem lit_of_cell {w : World} {x : Addr} {v : Value} (h : w.cell? (x.add 0) = some v) : x = ⟨x.block, x.off, none⟩ := by
  simp only [Addr.add, if_pos, World.cell?] at h
  split at h
  · rcases x with ⟨b, o, s⟩
    rcases s with _ | s
    · rfl
    · simp at h
  · cases h

theorem acts_open {H : Type} {enc : TypeId × Value → H} {w : World} {fuel : Nat} {cs : List Value} {x : DataW H × List MemPlace} (h : DataW.trod enc Try.prog w 0 (fun _ => true) true fuel 22 cs = some x) :
    ∃ a len cap as_, cs = [.slice a len cap] ∧ IsActs w a len as_ := by
  have c34 : Try.prog.cellsOf 34 = 7 := by kernel_rfl
  rcases Go.Deep.open_slice Try.underlying22 h with ⟨hcs, _⟩ | ⟨a, len, cap, m, n, D, Pl, hcs, _, hl, _, hm, _, hi⟩
  · exact ⟨none, 0, 0, [], hcs, rfl, 0, 0, fun h => absurd h (by omega), fun k e he => by simp at he⟩
  · rw [c34] at hi
    have hm : m = cap := by simpa using hm
    have each : ∀ r, r < len → ∃ e : ActV, w.cell? ((a.add (r * 7)).add 0) = some (.int .u8 e.wh) ∧ w.cell? ((a.add (r * 7)).add 1) = some (.int .i64 e.i) ∧ w.cell? ((a.add (r * 7)).add 2) = some (.int .i64 e.j) ∧ w.cell? ((a.add (r * 7)).add 3) = some (.int .i64 e.by_) ∧
      w.cell? ((a.add (r * 7)).add 4) = some (.int .i64 e.f) ∧ w.cell? ((a.add (r * 7)).add 5) = some (.int .i64 e.t) ∧ w.cell? ((a.add (r * 7)).add 6) = some (.slice e.A e.n e.c) ∧ (0 ≤ e.wh ∧ e.wh ≤ 255) ∧ Bts w e.A e.b ∧ e.b.length = e.n := fun r hr => by
      obtain ⟨cs', hc, ht⟩ := hi r (by omega)
      exact act_open hc ht
    let f : Nat → ActV := fun r => if hr : r < len then (each r hr).choose else ⟨0, 0, 0, 0, 0, 0, none, 0, 0, []⟩
    have ha : 0 < len → a = ⟨a.block, a.off, none⟩ := fun hp => by
      obtain ⟨e0, h0, _⟩ := each 0 hp
      rw [Go.Deep.add_add] at h0
      exact lit_of_cell h0
    refine ⟨some a, len, cap, (List.range len).map f, hcs, by simp, a.block, a.off, fun hp => by rw [← ha hp], fun k e he => ?_⟩
    have hk : k < len := by simpa using (List.getElem?_eq_some_iff.1 he).1
    simp only [List.getElem?_map, List.getElem?_range hk, Option.map_some, Option.some.injEq] at he
    have hf : f k = (each k hk).choose := dif_pos hk
    have hs := (each k hk).choose_spec
    rw [← hf, he, ha (by omega)] at hs
    simp only [Addr.add_lit, Nat.add_zero] at hs
    exact hs

/-! ### THE ROW's STEP: WRITTEN OUT: LEAVE IT -/
set_option maxRecDepth 100000 in
theorem lifted (os : Os) (started : os.Started) (H : Type) (enc : TypeId × Value → H) :
    ReturnsInHanded {} Try.checked os 3 .any (Rows.netPlaysSpec.pre6 enc Try.prog Try.f3 Rows.netPlaysRow.domain false) (Rows.netPlaysSpec.post enc Try.prog Try.f3 false true false false) := by
  refine returnsInHanded_of_change (C := Try.checked) own started (by kernel_rfl) Try.func3
    (ChangeSpec.witness6 (enc := enc) (C := Try.checked) false ⟨#[], #[.slice none 0 0], []⟩ 8 (by kernel_rfl) (by kernel_rfl) (by kernel_rfl) (by kernel_rfl)) ?_
  intro W base args ds gs before hval0 hW hcnd _
  have hval : ∀ (j : Nat) t v, Try.f3.params[j]? = some t → args[j]? = some v → Value.okWide Try.prog W .any base t v := hval0
  have hW' := hW
  obtain ⟨p, q, hA0, hV, rfl, hfz, hnd⟩ := hW
  have hA : DataW.TrodAll enc Try.prog W 0 (fun _ => true) true Try.f3.params.toList args.toList ds p := hA0
  rw [Try.params3] at hA hval
  obtain ⟨v0, vs0, d0, ds0, p0, q0, hargs, rfl, rfl, h0, r0⟩ := trodAll_cons hA
  obtain ⟨rfl, rfl, rfl⟩ := trodAll_nil r0
  obtain rfl : args = #[v0] := by cases args; simp_all
  obtain ⟨rfl, rfl⟩ := trodVars_none hV
  obtain ⟨a0, len0, cap0, rfl⟩ := okWide_slice Try.underlying22 (hval 0 22 v0 rfl rfl)
  have k0 := h0
  have lt0 : ∀ x ∈ p0, x.block < W.heap.size := by obtain ⟨m, hm⟩ := k0; exact DataW.trod_lt m _ _ _ hm
  obtain ⟨as_, w0⟩ : ∃ as_, IsActs W a0 len0 as_ := by
    obtain ⟨fuel, hf⟩ := h0
    obtain ⟨a, len, cap, as_, hcs, hac⟩ := acts_open hf
    simp [Value.cells] at hcs
    obtain ⟨rfl, rfl, rfl⟩ := hcs
    exact ⟨as_, hac⟩
  clear hA0 hval0
  refine (walk a0 len0 cap0 as_ W w0).mono fun e W' ⟨he, bel⟩ => ?_
  subst he
  exact ⟨_, rfl, _, _, _, [], _, [], hW', trodAll_mk1 (shut_bool Try.underlying4 _), (trodAll_cons_mk (Below.trod laidOut (by kernel_rfl) (of_decide_eq_true (by kernel_rfl)) k0 bel lt0) trodAll_mk0), rfl, bel.frame _, fun h => by cases h⟩

theorem over : Rows.netPlaysRow.holds Try.pinned (OpenSpec.ofChange Rows.netPlaysSpec) :=
  OpenClaim.holds_of_wide 3 Try.f3 rfl rfl rfl rfl rfl rfl rfl ⟨rfl, rfl, rfl, rfl, rfl⟩ rfl rfl rfl rfl rfl (by kernel_rfl) Try.func3 (by kernel_rfl)
    (of_decide_eq_true (by kernel_rfl)) (by unfold Func.isWrapper; first | (rw [if_pos (by decide +kernel)]; kernel_rfl) | (rw [if_neg (by decide +kernel)]; exact ⟨rfl, rfl⟩))
    (fun os started H enc _ => lifted os started H enc)

/-- ████ THE STATEMENT ████ -/
theorem proved : Rows.NetPlaysSaid := over
#print axioms proved
end Go.Proofs.Ytgepnglmhalomaa.netPlays

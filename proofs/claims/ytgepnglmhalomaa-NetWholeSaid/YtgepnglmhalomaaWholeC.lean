/-
  Own text (the frame was written by the kit's proof-skeleton.mjs). PROVED: called with any [][]byte and any []uint32, newsreellaw30.NetWhole returns true, and the arguments read behind the call as they read before. CONDITIONS: none beside those of the given row.
-/
import Derived.Test.YtgepnglmhalomaaWholeA
import Derived.Test.YtgepnglmhalomaaWholeB
import Derived.Test.YtgepnglmhalomaaSized
import Derived.Deep.Matrix
import Derived.SizedLaws
import Derived.WalkKit
import Derived.ProofKit
import Derived.OpenShut
import Derived.ShutString
import Derived.ChangeOld
import Derived.Below
namespace Go.Proofs.Ytgepnglmhalomaa.netWhole
open Go.ChangeShapes Go.WideShapes Go.ChangeAt Go.RowKit
open Go.ChangeMaps (open_string shut_string)
set_option linter.unusedVariables false

theorem own : ownKnob Try.prog.godebug = none := by kernel_rfl
theorem laidOut : laidOutB Try.prog = true := by kernel_rfl

/-- WHAT THE WALK IS TOLD OF A SLICE OF INTEGERS THAT CAME IN: it is nil; or it leads to a row of 'cap' cells, the numbers 'zs' (the first 'len' are its elements, the rest its spare room), each fitting its kind. -/
def IsRow (k : IntKind) (w : World) (a : Option Addr) (len cap : Nat) (zs : List Int) : Prop :=
  (a = none ∧ len = 0 ∧ cap = 0 ∧ zs = []) ∨
  ∃ x, a = some x ∧ len ≤ cap ∧ cap ≤ maxLen ∧ zs.length = cap ∧ (∀ i, i < zs.length → w.cell? (x.add i) = some (.int k (zs.getD i 0))) ∧ ∀ n ∈ zs, (Lit.int k n).wf = true

theorem bts_of_row {w : World} {a : Option Addr} {len cap : Nat} {zs : List Int} (h : IsRow .u8 w a len cap zs) : ∃ bs : List UInt8, bs.length = len ∧ Bts w a bs ∧ len ≤ cap := by
  rcases h with ⟨rfl, rfl, rfl, rfl⟩ | ⟨x, rfl, hl, _, hz, hc, hw⟩
  · exact ⟨[], rfl, fun h => absurd h (by simp), Nat.le_refl _⟩
  · refine ⟨(zs.take len).map fun n => UInt8.ofNat n.toNat, by rw [List.length_map, List.length_take]; omega, fun _ => ⟨x, rfl, fun j u hj => ?_⟩, hl⟩
    have hjl := (List.getElem?_eq_some_iff.1 hj).1
    simp only [List.length_map, List.length_take] at hjl
    have hjz : j < zs.length := by omega
    rw [hc j hjz]
    rw [List.map_map, List.getElem?_map, List.getElem?_take_of_lt (by omega), List.getElem?_eq_getElem hjz] at hj
    injection hj with hj
    subst hj
    have hwf := hw zs[j] (List.getElem_mem hjz)
    have hb : 0 ≤ zs[j] ∧ zs[j] ≤ 255 := bounds_u8 hwf
    simp only [Function.comp, bval, List.getD_eq_getElem?_getD, List.getElem?_eq_getElem hjz, Option.getD_some, UInt8.toNat_ofNat']
    congr 3
    omega
theorem addr_of_bts {w : World} {x : Addr} {bs : List UInt8} (h : Bts w (some x) bs) (hp : 0 < bs.length) : x = ⟨x.block, x.off, none⟩ := by
  obtain ⟨ad, hA, hc⟩ := h hp
  injection hA with hA
  subst hA
  have := hc 0 (bval (bs[0]'hp)) (by rw [List.getElem?_map, List.getElem?_eq_getElem hp]; rfl)
  simp only [Addr.add, if_pos, World.cell?] at this
  split at this
  · rcases x with ⟨b, o, s⟩
    rcases s with _ | s
    · rfl
    · simp at this
  · cases this

/-! ### STEP 1: THE WALK: the Go text returns true, AND WRITES NOTHING THAT WAS THERE: 'Below w.heap.size w w'' (Derived/Below.lean: '.refl', '.alloc', '.drew', '.setCell' at a new block, '.trans'). Open each 'IsRow' by 'rcases' AHEAD of 'go_enter'; part every test ahead of the walk. -/
/-- WHAT THE WALK IS TOLD OF A SLICE OF TEXTS THAT CAME IN. -/
def IsRows (w : World) (a : Option Addr) (len : Nat) (ls : List InB) : Prop := ls.length = len ∧ ∃ lb lo, (0 < len → a = some ⟨lb, lo, none⟩) ∧ Ins w lb lo ls

theorem nums_of_row {w : World} {a : Option Addr} {len cap : Nat} {zs : List Int} (h : IsRow .u32 w a len cap zs) : ∃ xs : List Int, xs.length = len ∧ Nums w a xs := by
  rcases h with ⟨rfl, rfl, rfl, rfl⟩ | ⟨x, rfl, hl, _, hz, hc, hw⟩
  · exact ⟨[], rfl, fun k v h => by simp at h⟩
  · refine ⟨zs.take len, by rw [List.length_take]; omega, fun k v hv => ?_⟩
    have hkl := (List.getElem?_eq_some_iff.1 hv).1
    rw [List.length_take] at hkl
    have hkz : k < zs.length := by omega
    rw [List.getElem?_take_of_lt (by omega), List.getElem?_eq_getElem hkz] at hv
    injection hv with hv
    have hcell := hc k hkz
    rw [List.getD_eq_getElem?_getD, List.getElem?_eq_getElem hkz, Option.getD_some, hv] at hcell
    have hx : x = ⟨x.block, x.off, none⟩ := by
      have h0 := hc 0 (by omega)
      simp only [Addr.add, if_pos, World.cell?] at h0
      split at h0
      · rcases x with ⟨b, o, s⟩
        rcases s with _ | s
        · rfl
        · simp at h0
      · cases h0
    have hwf := hw v (by rw [← hv]; exact List.getElem_mem hkz)
    have hb : 0 ≤ v ∧ v ≤ 4294967295 := bounds_u32 hwf
    refine ⟨x.block, x.off, by rw [← hx], ?_, hb.1, by omega⟩
    rw [hx, Addr.add_lit] at hcell
    exact hcell

theorem walk (a0 : Option Addr) (len0 cap0 : Nat) (ls : List InB) (a1 : Option Addr) (len1 cap1 : Nat) (z1 : List Int) (w : World) (w0 : IsRows w a0 len0 ls) (w1 : IsRow .u32 w a1 len1 cap1 z1) :
    Calls Try.prog 4 #[.slice a0 len0 cap0, .slice a1 len1 cap1] w fun e w' => e = .returned (.bool true) ∧ Below w.heap.size w w' := by
  obtain ⟨xs, hxl, hxs⟩ := nums_of_row w1
  obtain ⟨hl, lb, lo, hal, hins⟩ := w0
  by_cases h : 20 < len0 ∨ 60 < len1
  · exact whole_long a0 a1 len0 cap0 len1 cap1 w h
  · subst hl
    exact whole_walk lb lo len1 cap1 cap0 a0 a1 ls w hal hins xs hxs hxl (by omega) (by omega)

/-! ### THE ROW's STEP: WRITTEN OUT: LEAVE IT -/
theorem ins_of_rows {H : Type} {w : World} {x : Addr} {len cap : Nat} {A : Nat → Option Addr} {L C : Nat → Nat} {Z : Nat → List Int} (hl : len ≤ cap)
    (h : ∀ r, r < cap → w.cell? (x.add r) = some (.slice (A r) (L r) (C r)) ∧ L r ≤ C r ∧ C r ≤ maxLen ∧ (Z r).length = C r ∧ (∀ n ∈ Z r, (Lit.int .u8 n).wf = true) ∧ (A r = none → C r = 0) ∧ ∀ a', A r = some a' → 0 ≤ a'.block ∧ ∀ c, c < C r → w.cell? (a'.add c) = some (.int .u8 ((Z r).getD c 0)))
    (hs : ∀ r, r < len → L r ≤ 140737488355328) : ∃ ls, IsRows w (some x) len ls := by
  have each : ∀ r, r < len → ∃ b : List UInt8, b.length = L r ∧ Bts w (A r) b := fun r hr => by
    obtain ⟨h1, h2, h3, h4, h5, h6, h7⟩ := h r (by omega)
    rcases hA : A r with _ | a'
    · have := h6 hA
      exact ⟨[], by simp; omega, fun hp => absurd hp (by simp)⟩
    · obtain ⟨bs, hb1, hb2, _⟩ := bts_of_row (w := w) (a := some a') (len := L r) (cap := C r) (zs := Z r) (.inr ⟨a', rfl, h2, h3, h4, fun i hi => (h7 a' hA).2 i (by omega), h5⟩)
      exact ⟨bs, hb1, hb2⟩
  let f : Nat → List UInt8 := fun r => if hr : r < len then (each r hr).choose else []
  refine ⟨(List.range len).map fun r => ⟨A r, C r, f r⟩, by simp, x.block, x.off, fun hp => ?_, fun k e he => ?_⟩
  · have h0 := (h 0 (by omega)).1
    simp only [Addr.add, if_pos, World.cell?] at h0
    split at h0
    · rcases x with ⟨b, o, s⟩
      rcases s with _ | s
      · rfl
      · simp at h0
    · cases h0
  · have hk : k < len := by simpa using (List.getElem?_eq_some_iff.1 he).1
    simp only [List.getElem?_map, List.getElem?_range hk, Option.map_some, Option.some.injEq] at he
    subst he
    have hf : f k = (each k hk).choose := dif_pos hk
    obtain ⟨s1, s2⟩ := (each k hk).choose_spec
    have h0 := (h k (by omega)).1
    have hx : x = ⟨x.block, x.off, none⟩ := by
      have h0 := (h 0 (by omega)).1
      simp only [Addr.add, if_pos, World.cell?] at h0
      split at h0
      · rcases x with ⟨b, o, s⟩
        rcases s with _ | s
        · rfl
        · simp at h0
      · cases h0
    simp only [hf, s1]
    refine ⟨?_, s2, hs k hk⟩
    rw [hx, Addr.add_lit] at h0
    exact h0

set_option maxRecDepth 100000 in
theorem lifted (os : Os) (started : os.Started) (H : Type) (enc : TypeId × Value → H) :
    ReturnsInHanded {} Try.checked os 4 .any (Rows.netWholeSpec.pre6 enc Try.prog Try.f4 Rows.netWholeRow.domain false) (Rows.netWholeSpec.post enc Try.prog Try.f4 false true false false) := by
  refine returnsInHanded_of_change_sized (C := Try.checked) own started (by kernel_rfl) Try.func4
    (ChangeSpec.witness6 (enc := enc) (C := Try.checked) false ⟨#[], #[.slice none 0 0, .slice none 0 0], []⟩ 8 (by kernel_rfl) (by kernel_rfl) (by kernel_rfl) (by kernel_rfl)) ?_
  intro W base args ds gs before hval0 hW hcnd hsz0 _
  have hval : ∀ (j : Nat) t v, Try.f4.params[j]? = some t → args[j]? = some v → Value.okWide Try.prog W .any base t v := hval0
  have hsz : (DataW.weightsEach Try.prog (Try.f4.params.toList ++ Rows.netWholeSpec.plain.varTypes Try.prog) (ds ++ gs)).all (· ≤ reachBytes) = true := hsz0
  have hW' := hW
  obtain ⟨p, q, hA0, hV, rfl, hfz, hnd⟩ := hW
  have hA : DataW.TrodAll enc Try.prog W 0 (fun _ => true) true Try.f4.params.toList args.toList ds p := hA0
  rw [Try.params4] at hA hval hsz
  obtain ⟨v0, vs0, d0, ds0, p0, q0, hargs, rfl, rfl, h0, r0⟩ := trodAll_cons hA
  obtain ⟨v1, vs1, d1, ds1, p1, q1, rfl, rfl, rfl, h1, r1⟩ := trodAll_cons r0
  obtain ⟨rfl, rfl, rfl⟩ := trodAll_nil r1
  obtain rfl : args = #[v0, v1] := by cases args; simp_all
  obtain ⟨rfl, rfl⟩ := trodVars_none hV
  obtain ⟨a0, len0, cap0, rfl⟩ := okWide_slice Try.underlying45 (hval 0 45 v0 rfl rfl)
  obtain ⟨a1, len1, cap1, rfl⟩ := okWide_slice Try.underlying46 (hval 1 46 v1 rfl rfl)
  have k0 := h0
  have k1 := h1
  have lt0 : ∀ x ∈ p0, x.block < W.heap.size := by obtain ⟨m, hm⟩ := k0; exact DataW.trod_lt m _ _ _ hm
  have lt1 : ∀ x ∈ p1, x.block < W.heap.size := by obtain ⟨m, hm⟩ := k1; exact DataW.trod_lt m _ _ _ hm
  obtain ⟨ls, w0⟩ : ∃ ls, IsRows W a0 len0 ls := by
    obtain ⟨fuel, hf⟩ := h0
    rcases Go.Deep.open_int_rows Try.underlying45 Try.underlying30 Try.underlying5 (by kernel_rfl) (by kernel_rfl) hf with ⟨hcs, _⟩ | ⟨x, l, c, A, L, C, Z, hcs, _, hl, hm, hx, hr⟩
    · simp [Value.cells] at hcs
      obtain ⟨rfl, rfl, rfl⟩ := hcs
      exact ⟨[], rfl, 0, 0, fun h => absurd h (by omega), fun k e h => by simp at h⟩
    · simp [Value.cells] at hcs
      obtain ⟨rfl, rfl, rfl⟩ := hcs
      simp only [Prod.mk.injEq] at hx
      obtain ⟨hd, _⟩ := hx
      refine ins_of_rows (H := H) hl hr (fun r hrl => ?_)
      have hAr := (hr r (by omega))
      rcases hA2 : A r with _ | a'
      · have h6 := hAr.2.2.2.2.2.1 hA2
        have := hAr.2.1
        omega
      · have hrow := sized_row hsz (j := 0) (t := 45) rfl (by rw [hd]; rfl) Try.underlying45 Try.underlying30 (i := r) (es := lits .u8 ((Z r).take (L r))) (sp := lits .u8 ((Z r).drop (L r))) (by
          rw [List.getElem?_map, List.getElem?_range hrl, Option.map_some]
          simp only [Go.Deep.intRow, hA2])
        have hb : Try.prog.bytesOf 5 = 1 := by kernel_rfl
        have hlt := reachBytes_lt
        rw [hb] at hrow
        simp only [lits, List.length_map, List.length_take, List.length_drop] at hrow
        have h4 := hAr.2.2.2.1
        have h2 := hAr.2.1
        omega
  obtain ⟨z1, w1⟩ : ∃ zs, IsRow .u32 W a1 len1 cap1 zs := by
    obtain ⟨fuel, hf⟩ := h1
    rcases open_ints Try.underlying46 Try.underlying48 (by kernel_rfl) hf with ⟨hcs, _⟩ | ⟨x, l, c, zs, hcs, _, hl, hm, hz, _, hcell, hwz⟩
    · simp [Value.cells] at hcs
      obtain ⟨rfl, rfl, rfl⟩ := hcs
      exact ⟨[], .inl ⟨rfl, rfl, rfl, rfl⟩⟩
    · simp [Value.cells] at hcs
      obtain ⟨rfl, rfl, rfl⟩ := hcs
      exact ⟨zs, .inr ⟨_, rfl, hl, hm, by simpa using hz, hcell, hwz⟩⟩
  clear hA0 hval0
  refine (walk a0 len0 cap0 ls a1 len1 cap1 z1 W w0 w1).mono fun e W' ⟨he, bel⟩ => ?_
  subst he
  exact ⟨_, rfl, _, _, _, [], _, [], hW', trodAll_mk1 (shut_bool Try.underlying4 _), (trodAll_cons_mk (Below.trod laidOut (by kernel_rfl) (of_decide_eq_true (by kernel_rfl)) k0 bel lt0) (trodAll_cons_mk (Below.trod laidOut (by kernel_rfl) (of_decide_eq_true (by kernel_rfl)) k1 bel lt1) trodAll_mk0)), rfl, bel.frame _, fun h => by cases h⟩

theorem over : Rows.netWholeRow.holds Try.pinned (OpenSpec.ofChange Rows.netWholeSpec) :=
  OpenClaim.holds_of_wide 4 Try.f4 rfl rfl rfl rfl rfl rfl rfl ⟨rfl, rfl, rfl, rfl, rfl⟩ rfl rfl rfl rfl rfl (by kernel_rfl) Try.func4 (by kernel_rfl)
    (of_decide_eq_true (by kernel_rfl)) (by unfold Func.isWrapper; first | (rw [if_pos (by decide +kernel)]; kernel_rfl) | (rw [if_neg (by decide +kernel)]; exact ⟨rfl, rfl⟩))
    (fun os started H enc _ => lifted os started H enc)

/-- ████ THE STATEMENT ████ -/
theorem proved : Rows.NetWholeSaid := over
#print axioms proved
end Go.Proofs.Ytgepnglmhalomaa.netWhole

/-
  Own text. Both nets side by side: each method at any place, there or not; the answer and the list that the net reads as, as functions of the list and the place.
-/
import Derived.Test.YtgepnglmhalomaaBoth
namespace Go.Proofs.Ytgepnglmhalomaa
open Go.RowKit

/-- Is there one? -/
def okAt (L : List Pk) (i : Int) : Bool := decide (0 ≤ i ∧ i < (L.length : Int))
/-- The parcel at a place; none: the zero parcel. -/
def pkAt (L : List Pk) (i : Int) : Pk := if okAt L i = true then (L[i.toNat]?).getD ⟨0, 0, []⟩ else ⟨0, 0, []⟩
def dropAt (L : List Pk) (i : Int) : List Pk := if okAt L i = true then L.eraseIdx i.toNat else L
def addAt (L : List Pk) (i : Int) : List Pk := if okAt L i = true then L ++ [pkAt L i] else L
def okSwap (L : List Pk) (i j : Int) : Bool := okAt L i && okAt L j
def swapAt (L : List Pk) (i j : Int) : List Pk := if okSwap L i j = true then (L.set i.toNat (pkAt L j)).set j.toNat (pkAt L i) else L
def okSpoil (L : List Pk) (i k b : Int) : Bool := okAt L i && (decide (0 ≤ k ∧ k < ((pkAt L i).b.length : Int)) && !(b % 256 == 0))
def spoilAt (L : List Pk) (i k b : Int) : List Pk := if okSpoil L i k b = true then spoiltAt L i.toNat (pkAt L i) k.toNat (((pkAt L i).b[k.toNat]?).getD 0) b else L

theorem ok_yes {L : List Pk} {i : Int} (h : okAt L i = true) : ∃ n : Nat, i = n ∧ L[n]? = some (pkAt L i) := by
  have h' : 0 ≤ i ∧ i < (L.length : Int) := of_decide_eq_true h
  refine ⟨i.toNat, by omega, ?_⟩
  unfold pkAt
  rw [if_pos h, List.getElem?_eq_getElem (by omega), Option.getD_some]
theorem ok_no {L : List Pk} {i : Int} (h : ¬ okAt L i = true) : Out i L ∧ pkAt L i = ⟨0, 0, []⟩ ∧ okAt L i = false := by
  refine ⟨?_, by unfold pkAt; rw [if_neg h], by simpa using h⟩
  unfold okAt at h
  unfold Out
  simp only [decide_eq_true_eq] at h
  omega

/-- The call tells what stands at a place; nothing has turned. -/
def Shown (L : List Pk) (i : Int) (w : World) (e : Ending) (w' : World) : Prop :=
  ∃ A n c, e = .returned (.tuple #[.agg #[.int .i64 (pkAt L i).f, .int .i64 (pkAt L i).t, .slice A n c], .bool (okAt L i)]) ∧ (pkAt L i).b.length = n ∧ Bts w' A (pkAt L i).b ∧ Below w.heap.size w w'

/-- Both nets; the blocks Qs are none of the second's. -/
def Two (w0 : World) (Ps Qs : List Nat) (w : World) (b1 : Nat) (L1 : List Pk) (b2 : Nat) (L2 : List Pk) : Prop :=
  ∃ F1 F2, Net w 53 b1 F1 L1 ∧ Net w 29 b2 F2 L2 ∧ (∀ k ∈ F1, w0.heap.size ≤ k ∧ k ∉ Ps ∧ k ∉ F2) ∧ (∀ k ∈ F2, w0.heap.size ≤ k ∧ k ∉ Ps ∧ k ∉ Qs) ∧ Below w0.heap.size w0 w ∧ (∀ k ∈ Ps, k < w.heap.size) ∧ ∀ k ∈ Qs, k < w.heap.size

/-- The call tells what stands at a place, and takes it from the first net. -/
def Took1 (w0 : World) (Ps : List Nat) (w : World) (b1 : Nat) (L1 : List Pk) (b2 : Nat) (L2 : List Pk) (i : Int) (e : Ending) (w' : World) : Prop :=
  ∃ A n c Qs, e = .returned (.tuple #[.agg #[.int .i64 (pkAt L1 i).f, .int .i64 (pkAt L1 i).t, .slice A n c], .bool (okAt L1 i)]) ∧ (pkAt L1 i).b.length = n ∧ Bts w' A (pkAt L1 i).b ∧ (∀ ad, A = some ad → 0 < (pkAt L1 i).b.length → ad.block ∈ Qs) ∧
    Two w0 Ps Qs w' b1 (dropAt L1 i) b2 L2 ∧ ∀ k ∈ Ps, w'.heap[k]? = w.heap[k]?
/-- The call tells what stands at a place, and takes it from the second net. -/
def Took2 (w0 : World) (Ps Qs : List Nat) (w : World) (b1 : Nat) (L1 : List Pk) (b2 : Nat) (L2 : List Pk) (i : Int) (e : Ending) (w' : World) : Prop :=
  ∃ A n c, e = .returned (.tuple #[.agg #[.int .i64 (pkAt L2 i).f, .int .i64 (pkAt L2 i).t, .slice A n c], .bool (okAt L2 i)]) ∧ (pkAt L2 i).b.length = n ∧ Bts w' A (pkAt L2 i).b ∧
    Both w0 Ps w' 53 b1 L1 29 b2 (dropAt L2 i) ∧ (∀ k ∈ Ps, w'.heap[k]? = w.heap[k]?) ∧ ∀ B bs, Bts w B bs → (∀ ad, B = some ad → 0 < bs.length → ad.block ∈ Qs) → Bts w' B bs
/-- The call answers v; the second net reads as L2' now. -/
def Did2 (v : Value) (w0 : World) (Ps : List Nat) (w : World) (b1 : Nat) (L1 : List Pk) (b2 : Nat) (L2' : List Pk) (e : Ending) (w' : World) : Prop :=
  e = .returned v ∧ Both w0 Ps w' 53 b1 L1 29 b2 L2' ∧ ∀ k ∈ Ps, w'.heap[k]? = w.heap[k]?

section
variable {w0 w : World} {Ps Qs : List Nat} {b1 b2 : Nat} {L1 L2 : List Pk}
theorem Did.flip {T1 T2 : Nat} {v : Value} {e : Ending} {w' : World} (h : Did v w0 Ps w T2 b2 L2 T1 b1 L1 e w') : e = .returned v ∧ Both w0 Ps w' T1 b1 L1 T2 b2 L2 ∧ ∀ k ∈ Ps, w'.heap[k]? = w.heap[k]? := ⟨h.1, h.2.1.comm, h.2.2⟩

theorem Both.at1 (h : Both w0 Ps w 53 b1 L1 29 b2 L2) (i : Int) : Calls Try.prog 21 #[.pointer (some ⟨b1, 0, none⟩), .int .i64 i] w (Shown L1 i w) := by
  obtain ⟨F1, F2, h1, h2, _⟩ := h
  by_cases hi : okAt L1 i = true
  · obtain ⟨n, rfl, hx⟩ := ok_yes hi
    refine (h1.at_ hx).mono ?_
    rintro e w' ⟨A, m, c, rfl, hm, hb, _, hw⟩
    exact ⟨A, m, c, by rw [hi], hm.symm, hb, hw⟩
  · obtain ⟨ho, hp, hk⟩ := ok_no hi
    refine (h1.at_out ho).mono ?_
    rintro e w' ⟨rfl, hw⟩
    refine ⟨none, 0, 0, by rw [hp, hk], by rw [hp]; rfl, by rw [hp]; exact fun h => absurd h (by simp), hw⟩
theorem Both.at2 (h : Both w0 Ps w 53 b1 L1 29 b2 L2) (i : Int) : Calls Try.prog 22 #[.pointer (some ⟨b2, 0, none⟩), .int .i64 i] w (Shown L2 i w) := by
  obtain ⟨F1, F2, h1, h2, _⟩ := h
  by_cases hi : okAt L2 i = true
  · obtain ⟨n, rfl, hx⟩ := ok_yes hi
    refine (h2.rat_ hx).mono ?_
    rintro e w' ⟨A, m, c, rfl, hm, hb, _, hw⟩
    exact ⟨A, m, c, by rw [hi], hm.symm, hb, hw⟩
  · obtain ⟨ho, hp, hk⟩ := ok_no hi
    refine (h2.rat_out ho).mono ?_
    rintro e w' ⟨rfl, hw⟩
    refine ⟨none, 0, 0, by rw [hp, hk], by rw [hp]; rfl, by rw [hp]; exact fun h => absurd h (by simp), hw⟩
theorem Both.drewN (h : Both w0 Ps w 53 b1 L1 29 b2 L2) (n : Nat) : Both w0 Ps (w.drewN n) 53 b1 L1 29 b2 L2 := h.below (below_drewN (Below.refl _ _) n)
theorem Both.len1 (h : Both w0 Ps w 53 b1 L1 29 b2 L2) : Calls Try.prog 9 #[.pointer (some ⟨b1, 0, none⟩)] w fun e w' => e = .returned (.int .i64 L1.length) ∧ w = w' := by
  obtain ⟨F1, F2, h1, h2, _⟩ := h
  exact h1.len
theorem Both.hd2 (h : Both w0 Ps w 53 b1 L1 29 b2 L2) : ∃ A c, w.cell? ⟨b2, 0, none⟩ = some (.slice A L2.length c) := by
  obtain ⟨F1, F2, h1, ⟨es, G, c, hn, rfl, hL⟩, _⟩ := h
  refine ⟨G.map fun g => ⟨g, 0, none⟩, c, ?_⟩
  rw [← pk_len hL]
  exact hn.len_cell

theorem Two.both (h : Two w0 Ps Qs w b1 L1 b2 L2) : Both w0 Ps w 53 b1 L1 29 b2 L2 := by
  obtain ⟨F1, F2, h1, h2, h3, h4, h5, h6, h7⟩ := h
  exact ⟨F1, F2, h1, h2, h3, fun k hk => ⟨(h4 k hk).1, (h4 k hk).2.1⟩, h5, h6⟩
theorem Two.keep (h : Two w0 Ps Qs w b1 L1 b2 L2) (o : Obj) : Two w0 (w.heap.size :: Ps) Qs (w.alloc o) b1 L1 b2 L2 := by
  obtain ⟨F1, F2, h1, h2, h3, h4, h5, h6, h7⟩ := h
  have hb : Below w.heap.size w (w.alloc o) := (Below.refl _ _).alloc (Nat.le_refl _) o
  refine ⟨F1, F2, h1.below hb, h2.below hb, fun k hk => ⟨(h3 k hk).1, fun hm => ?_, (h3 k hk).2.2⟩, fun k hk => ⟨(h4 k hk).1, fun hm => ?_, (h4 k hk).2.2⟩, h5.alloc h5.size o, fun k hk => ?_, fun k hk => Nat.lt_of_lt_of_le (h7 k hk) hb.size⟩
  · rcases List.mem_cons.1 hm with h | h
    · have := h1.lt k hk
      omega
    · exact (h3 k hk).2.1 h
  · rcases List.mem_cons.1 hm with h | h
    · have := h2.lt k hk
      omega
    · exact (h4 k hk).2.1 h
  · rw [World.size_alloc]
    rcases List.mem_cons.1 hk with h | h
    · omega
    · have := h6 k h
      omega

theorem Both.take1 (h : Both w0 Ps w 53 b1 L1 29 b2 L2) (hl : L1.length ≤ 1000000) (i : Int) : Calls Try.prog 12 #[.pointer (some ⟨b1, 0, none⟩), .int .i64 i] w (Took1 w0 Ps w b1 L1 b2 L2 i) := by
  have hB := h
  obtain ⟨F1, F2, h1, h2, h3, h4, h5, h6⟩ := h
  by_cases hi : okAt L1 i = true
  · obtain ⟨n, hn, hx⟩ := ok_yes hi
    subst hn
    refine (h1.take hl hx).mono ?_
    rintro e w' ⟨A, m, c, rfl, hm, hb, hA, F', hn', hk, hF⟩
    have hd : dropAt L1 (n : Int) = L1.eraseIdx n := by unfold dropAt; rw [if_pos hi]; rfl
    obtain ⟨hbt, hPs⟩ := Both.next (T2 := 29) (b2 := b2) (L2 := L2) (Ps := Ps) h2 h3 h4 h5 h6 hn' hk hF
    refine ⟨A, m, c, A.toList.filterMap (fun ad => if ad.block < w'.heap.size then some ad.block else none), by rw [hi], hm.symm, hb, fun ad had hp => ?_, ⟨F', F2, by rw [hd]; exact hn', h2.kept hk (fun k hk2 hk1 => (h3 k hk1).2.2 hk2), fun k hm' => ?_, fun k hk2 => ⟨(h4 k hk2).1, (h4 k hk2).2, fun hq => ?_⟩, hbt.world, fun k hm' => Nat.lt_of_lt_of_le (h6 k hm') hk.size, fun k hq => ?_⟩, hPs⟩
    · subst had
      obtain ⟨ad', had', hc⟩ := hb hp
      injection had' with had'
      subst had'
      have h0 := block_lt_of_cell (hc 0 (bval ((pkAt L1 (n : Int)).b[0]'hp)) (by rw [List.getElem?_map, List.getElem?_eq_getElem hp]; rfl))
      rw [block_of_add] at h0
      simp [h0]
    · rcases hF k hm' with hf | hf
      · exact h3 k hf
      · exact ⟨Nat.le_trans h5.size hf, fun hp => by have := h6 k hp; omega, fun hf2 => by have := h2.lt k hf2; omega⟩
    · obtain ⟨ad, had, hq⟩ := List.mem_filterMap.1 hq
      split at hq
      · injection hq with hq
        subst hq
        rcases hA ad (by simpa using had) with h | h
        · exact (h3 _ h).2.2 hk2
        · have := h2.lt _ hk2
          omega
      · cases hq
    · obtain ⟨ad, had, hq⟩ := List.mem_filterMap.1 hq
      split at hq
      · injection hq with hq
        subst hq
        assumption
      · cases hq
  · obtain ⟨ho, hp, hk⟩ := ok_no hi
    refine (h1.take_out ho).mono ?_
    rintro e w' ⟨rfl, hw⟩
    have hd : dropAt L1 i = L1 := by unfold dropAt; rw [if_neg hi]
    refine ⟨none, 0, 0, [], by rw [hp, hk], by rw [hp]; rfl, by rw [hp]; exact fun h => absurd h (by simp), (fun ad had _ => by cases had), ⟨F1, F2, by rw [hd]; exact h1.below hw, h2.below hw, h3, fun k hk => ⟨(h4 k hk).1, (h4 k hk).2, by simp⟩, h5.trans (hw.mono h5.size), fun k hk => Nat.lt_of_lt_of_le (h6 k hk) hw.size, by simp⟩, fun k hk => hw.block k (h6 k hk)⟩

theorem Two.take2 (h : Two w0 Ps Qs w b1 L1 b2 L2) (hl : L2.length ≤ 1000000) (i : Int) : Calls Try.prog 13 #[.pointer (some ⟨b2, 0, none⟩), .int .i64 i] w (Took2 w0 Ps Qs w b1 L1 b2 L2 i) := by
  obtain ⟨F1, F2, h1, h2, h3, h4, h5, h6, h7⟩ := h
  by_cases hi : okAt L2 i = true
  · obtain ⟨n, hn, hx⟩ := ok_yes hi
    subst hn
    refine (h2.rtake hl hx).mono ?_
    rintro e w' ⟨A, m, c, rfl, hm, hb, hA, F', hn', hk, hF⟩
    have hd : dropAt L2 (n : Int) = L2.eraseIdx n := by unfold dropAt; rw [if_pos hi]; rfl
    obtain ⟨hbt, hPs⟩ := Both.next (w0 := w0) (T2 := 53) (b2 := b1) (L2 := L1) (Ps := Ps) (F2 := F1) h1 (fun k hk2 => ⟨(h4 k hk2).1, (h4 k hk2).2.1, fun hm1 => (h3 k hm1).2.2 hk2⟩) (fun k hk1 => ⟨(h3 k hk1).1, (h3 k hk1).2.1⟩) h5 h6 hn' hk hF
    refine ⟨A, m, c, by rw [hi], hm.symm, hb, by rw [hd]; exact hbt.comm, hPs, fun B bs hB hq => hB.kept hk fun ad had hp hf => (h4 _ hf).2.2 (hq ad had hp)⟩
  · obtain ⟨ho, hp, hk⟩ := ok_no hi
    refine (h2.rtake_out ho).mono ?_
    rintro e w' ⟨rfl, hw⟩
    have hd : dropAt L2 i = L2 := by unfold dropAt; rw [if_neg hi]
    refine ⟨none, 0, 0, by rw [hp, hk], by rw [hp]; rfl, by rw [hp]; exact fun h => absurd h (by simp), by rw [hd]; exact ⟨F1, F2, h1.below hw, h2.below hw, h3, fun k hk => ⟨(h4 k hk).1, (h4 k hk).2.1⟩, h5.trans (hw.mono h5.size), fun k hk => Nat.lt_of_lt_of_le (h6 k hk) hw.size⟩, fun k hk => hw.block k (h6 k hk), fun B bs hB _ => hB.below' hw⟩

theorem Both.double1 (h : Both w0 Ps w 53 b1 L1 29 b2 L2) (hl : L1.length ≤ 1000000) (i : Int) : Calls Try.prog 15 #[.pointer (some ⟨b1, 0, none⟩), .int .i64 i] w (Did (.bool (okAt L1 i)) w0 Ps w 53 b1 (addAt L1 i) 29 b2 L2) := by
  by_cases hi : okAt L1 i = true
  · obtain ⟨n, hn, hx⟩ := ok_yes hi
    subst hn
    have hd : addAt L1 (n : Int) = L1 ++ [pkAt L1 n] := by unfold addAt; rw [if_pos hi]
    rw [hi, hd]
    exact h.did fun _ hF => hF.double hl hx
  · obtain ⟨ho, hp, hk⟩ := ok_no hi
    have hd : addAt L1 i = L1 := by unfold addAt; rw [if_neg hi]
    rw [hk, hd]
    obtain ⟨F1, _, h1, _⟩ := id h
    exact h.quiet (h1.double_out ho)
theorem Both.double2 (h : Both w0 Ps w 53 b1 L1 29 b2 L2) (hl : L2.length ≤ 1000000) (i : Int) : Calls Try.prog 16 #[.pointer (some ⟨b2, 0, none⟩), .int .i64 i] w (Did2 (.bool (okAt L2 i)) w0 Ps w b1 L1 b2 (addAt L2 i)) := by
  by_cases hi : okAt L2 i = true
  · obtain ⟨n, hn, hx⟩ := ok_yes hi
    subst hn
    have hd : addAt L2 (n : Int) = L2 ++ [pkAt L2 n] := by unfold addAt; rw [if_pos hi]
    rw [hi, hd]
    exact (h.comm.did fun _ hF => hF.rdouble hl hx).mono fun _ _ h => h.flip
  · obtain ⟨ho, hp, hk⟩ := ok_no hi
    have hd : addAt L2 i = L2 := by unfold addAt; rw [if_neg hi]
    rw [hk, hd]
    obtain ⟨F1, F2, _, h2, _⟩ := id h
    exact (h.comm.quiet (h2.rdouble_out ho)).mono fun _ _ h => h.flip

theorem swap_no_out {L : List Pk} {i j : Int} (h : ¬ okSwap L i j = true) : (Out i L ∨ Out j L) ∧ okSwap L i j = false ∧ swapAt L i j = L := by
  refine ⟨?_, by simpa using h, by unfold swapAt; rw [if_neg h]⟩
  unfold okSwap at h
  rw [Bool.and_eq_true] at h
  by_cases h1 : okAt L i = true
  · exact .inr (ok_no fun h2 => h ⟨h1, h2⟩).1
  · exact .inl (ok_no h1).1
theorem Both.swap1 (h : Both w0 Ps w 53 b1 L1 29 b2 L2) (i j : Int) : Calls Try.prog 17 #[.pointer (some ⟨b1, 0, none⟩), .int .i64 i, .int .i64 j] w (Did (.bool (okSwap L1 i j)) w0 Ps w 53 b1 (swapAt L1 i j) 29 b2 L2) := by
  by_cases hi : okSwap L1 i j = true
  · have h12 := hi
    unfold okSwap at h12
    rw [Bool.and_eq_true] at h12
    obtain ⟨n, hn, hx⟩ := ok_yes h12.1
    obtain ⟨m, hm, hy⟩ := ok_yes h12.2
    subst hn
    subst hm
    have hd : swapAt L1 (n : Int) (m : Int) = (L1.set n (pkAt L1 m)).set m (pkAt L1 n) := by unfold swapAt; rw [if_pos hi]; rfl
    rw [hi, hd]
    exact h.did fun _ hF => hF.swap hx hy
  · obtain ⟨ho, hk, hd⟩ := swap_no_out hi
    rw [hk, hd]
    obtain ⟨F1, _, h1, _⟩ := id h
    exact h.quiet (h1.swap_out ho)
theorem Both.swap2 (h : Both w0 Ps w 53 b1 L1 29 b2 L2) (i j : Int) : Calls Try.prog 18 #[.pointer (some ⟨b2, 0, none⟩), .int .i64 i, .int .i64 j] w (Did2 (.bool (okSwap L2 i j)) w0 Ps w b1 L1 b2 (swapAt L2 i j)) := by
  by_cases hi : okSwap L2 i j = true
  · have h12 := hi
    unfold okSwap at h12
    rw [Bool.and_eq_true] at h12
    obtain ⟨n, hn, hx⟩ := ok_yes h12.1
    obtain ⟨m, hm, hy⟩ := ok_yes h12.2
    subst hn
    subst hm
    have hd : swapAt L2 (n : Int) (m : Int) = (L2.set n (pkAt L2 m)).set m (pkAt L2 n) := by unfold swapAt; rw [if_pos hi]; rfl
    rw [hi, hd]
    exact (h.comm.did fun _ hF => hF.rswap hx hy).mono fun _ _ h => h.flip
  · obtain ⟨ho, hk, hd⟩ := swap_no_out hi
    rw [hk, hd]
    obtain ⟨F1, F2, _, h2, _⟩ := id h
    exact (h.comm.quiet (h2.rswap_out ho)).mono fun _ _ h => h.flip

theorem spoil_no_out {L : List Pk} {i k b : Int} (h : ¬ okSpoil L i k b = true) : NoSpoil L i k b ∧ okSpoil L i k b = false ∧ spoilAt L i k b = L := by
  refine ⟨?_, by simpa using h, by unfold spoilAt; rw [if_neg h]⟩
  unfold okSpoil at h
  by_cases h1 : okAt L i = true
  · obtain ⟨n, hn, hx⟩ := ok_yes h1
    refine .inr ⟨n, _, hn, hx, ?_⟩
    rw [h1, Bool.true_and, Bool.and_eq_true] at h
    by_cases h2 : b % 256 = 0
    · exact .inr h2
    · left
      have h3 : ¬ (0 ≤ k ∧ k < ((pkAt L i).b.length : Int)) := fun h4 => h ⟨decide_eq_true h4, by simpa using h2⟩
      omega
  · exact .inl (ok_no h1).1
theorem spoil_yes_in {L : List Pk} {i k b : Int} (h : okSpoil L i k b = true) : ∃ (n m : Nat) (v : UInt8), i = n ∧ k = m ∧ L[n]? = some (pkAt L i) ∧ (pkAt L i).b[m]? = some v ∧ (b % 256 == 0) = false ∧ spoilAt L i k b = spoiltAt L n (pkAt L i) m v b := by
  have h' := h
  unfold okSpoil at h'
  rw [Bool.and_eq_true, Bool.and_eq_true] at h'
  obtain ⟨h1, h2, h3⟩ := h'
  obtain ⟨n, hn, hx⟩ := ok_yes h1
  have h2 : 0 ≤ k ∧ k < ((pkAt L i).b.length : Int) := of_decide_eq_true h2
  have hv : (pkAt L i).b[k.toNat]? = some ((pkAt L i).b[k.toNat]'(by omega)) := List.getElem?_eq_getElem (by omega)
  refine ⟨n, k.toNat, _, hn, by omega, hx, hv, by simpa using h3, ?_⟩
  unfold spoilAt
  have hn' : i.toNat = n := by omega
  rw [if_pos h, hv, hn']
  rfl
theorem Both.spoil1 (h : Both w0 Ps w 53 b1 L1 29 b2 L2) (i k b : Int) : Calls Try.prog 19 #[.pointer (some ⟨b1, 0, none⟩), .int .i64 i, .int .i64 k, .int .i64 b] w (Did (.bool (okSpoil L1 i k b)) w0 Ps w 53 b1 (spoilAt L1 i k b) 29 b2 L2) := by
  by_cases hi : okSpoil L1 i k b = true
  · obtain ⟨n, m, v, hn, hm, hx, hv, hb, hd⟩ := spoil_yes_in hi
    rw [hi, hd, hn, hm]
    rw [hn] at hx hv
    exact h.did fun _ hF => hF.spoil hx hv hb
  · obtain ⟨ho, hk, hd⟩ := spoil_no_out hi
    rw [hk, hd]
    obtain ⟨F1, _, h1, _⟩ := id h
    exact h.quiet (h1.spoil_out ho)
theorem Both.spoil2 (h : Both w0 Ps w 53 b1 L1 29 b2 L2) (i k b : Int) : Calls Try.prog 20 #[.pointer (some ⟨b2, 0, none⟩), .int .i64 i, .int .i64 k, .int .i64 b] w (Did2 (.bool (okSpoil L2 i k b)) w0 Ps w b1 L1 b2 (spoilAt L2 i k b)) := by
  by_cases hi : okSpoil L2 i k b = true
  · obtain ⟨n, m, v, hn, hm, hx, hv, hb, hd⟩ := spoil_yes_in hi
    rw [hi, hd, hn, hm]
    rw [hn] at hx hv
    exact (h.comm.did fun _ hF => hF.rspoil hx hv hb).mono fun _ _ h => h.flip
  · obtain ⟨ho, hk, hd⟩ := spoil_no_out hi
    rw [hk, hd]
    obtain ⟨F1, F2, _, h2, _⟩ := id h
    exact (h.comm.quiet (h2.rspoil_out ho)).mono fun _ _ h => h.flip
theorem Both.send1 (h : Both w0 Ps w 53 b1 L1 29 b2 L2) (hl : L1.length ≤ 1000000) (x : Pk) {A : Option Addr} {n c : Nat} (hb : Bts w A x.b) (hn : x.b.length = n) (hN : n ≤ 140737488355328) :
    Calls Try.prog 10 #[.pointer (some ⟨b1, 0, none⟩), .agg #[.int .i64 x.f, .int .i64 x.t, .slice A n c]] w (Did (.tuple #[]) w0 Ps w 53 b1 (L1 ++ [x]) 29 b2 L2) := h.did fun _ hF => hF.send hl x hb hn hN
theorem Both.send2 (h : Both w0 Ps w 53 b1 L1 29 b2 L2) (hl : L2.length ≤ 1000000) (x : Pk) {A : Option Addr} {n c : Nat} (hb : Bts w A x.b) (hn : x.b.length = n) (hN : n ≤ 140737488355328) :
    Calls Try.prog 11 #[.pointer (some ⟨b2, 0, none⟩), .agg #[.int .i64 x.f, .int .i64 x.t, .slice A n c]] w (Did2 (.tuple #[]) w0 Ps w b1 L1 b2 (L2 ++ [x])) := (h.comm.did fun _ hF => hF.rsend hl x hb hn hN).mono fun _ _ h => h.flip
end

theorem len_drop (L : List Pk) (i : Int) : (dropAt L i).length ≤ L.length := by
  unfold dropAt
  split
  · exact List.length_eraseIdx_le ..
  · exact Nat.le_refl _
theorem len_add (L : List Pk) (i : Int) : (addAt L i).length ≤ L.length + 1 := by
  unfold addAt
  split
  · simp
  · omega
theorem len_swap (L : List Pk) (i j : Int) : (swapAt L i j).length ≤ L.length := by
  unfold swapAt
  split
  · simp
  · exact Nat.le_refl _
theorem len_spoil (L : List Pk) (i k b : Int) : (spoilAt L i k b).length ≤ L.length := by
  unfold spoilAt spoiltAt
  split
  · simp
  · exact Nat.le_refl _
end Go.Proofs.Ytgepnglmhalomaa

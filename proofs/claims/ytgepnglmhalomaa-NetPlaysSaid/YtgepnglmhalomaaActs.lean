/-
  Own text. Each method of both nets, said of the list of parcels that the net reads as.
-/
import Derived.Test.YtgepnglmhalomaaWalkJ
namespace Go.Proofs.Ytgepnglmhalomaa
open Go.RowKit

/-- The call answers v; the net reads as L' now; nothing but the net's own blocks and new ones has turned. -/
def Moved (v : Value) (w : World) (T bp : Nat) (F : List Nat) (L' : List Pk) (e : Ending) (w' : World) : Prop :=
  e = .returned v ∧ ∃ F', Net w' T bp F' L' ∧ Kept F w w' ∧ ∀ k ∈ F', k ∈ F ∨ w.heap.size ≤ k

/-- The call tells the parcel x, and true; nothing has turned. -/
def Tells (w : World) (F : List Nat) (x : Pk) (e : Ending) (w' : World) : Prop :=
  ∃ A n c, e = .returned (.tuple #[.agg #[.int .i64 x.f, .int .i64 x.t, .slice A n c], .bool true]) ∧ n = x.b.length ∧ Bts w' A x.b ∧ (∀ ad, A = some ad → ad.block ∈ F ∨ w.heap.size ≤ ad.block) ∧ Below w.heap.size w w'

/-- The call tells that there is none; nothing has turned. -/
def Lacks (w : World) (e : Ending) (w' : World) : Prop :=
  e = .returned (.tuple #[.agg #[.int .i64 0, .int .i64 0, .slice none 0 0], .bool false]) ∧ Below w.heap.size w w'

/-- The call tells the parcel x, and true; the net reads as L' now. -/
def Taken (w : World) (T bp : Nat) (F : List Nat) (L' : List Pk) (x : Pk) (e : Ending) (w' : World) : Prop :=
  ∃ A n c, e = .returned (.tuple #[.agg #[.int .i64 x.f, .int .i64 x.t, .slice A n c], .bool true]) ∧ n = x.b.length ∧ Bts w' A x.b ∧ (∀ ad, A = some ad → ad.block ∈ F ∨ w.heap.size ≤ ad.block) ∧
    ∃ F', Net w' T bp F' L' ∧ Kept F w w' ∧ ∀ k ∈ F', k ∈ F ∨ w.heap.size ≤ k

/-- Nothing has turned; the answer is v. -/
def Quiet (v : Value) (w : World) (e : Ending) (w' : World) : Prop := e = .returned v ∧ Below w.heap.size w w'

/-- No such place. -/
def Out (i : Int) (L : List Pk) : Prop := i < 0 ∨ (L.length : Int) ≤ i

theorem map_erase (es : List Ent) (i : Nat) : (es.eraseIdx i).map Ent.pk = (es.map Ent.pk).eraseIdx i := by
  rw [List.eraseIdx_eq_take_drop_succ, List.eraseIdx_eq_take_drop_succ, List.map_append, List.map_take, List.map_drop]
theorem pk_get {es : List Ent} {L : List Pk} (h : es.map Ent.pk = L) {i : Nat} {x : Pk} (hx : L[i]? = some x) : ∃ e, es[i]? = some e ∧ e.pk = x := by
  subst h
  rw [List.getElem?_map] at hx
  rcases he : es[i]? with _ | e
  · rw [he] at hx
    cases hx
  · rw [he] at hx
    injection hx with hx
    exact ⟨e, rfl, hx⟩
theorem pk_len {es : List Ent} {L : List Pk} (h : es.map Ent.pk = L) : es.length = L.length := by rw [← h, List.length_map]

theorem moved_of_sent {v : Value} {w : World} {T bp : Nat} {es : List Ent} {G : Option Nat} {x : Pk} {e : Ending} {w' : World} (hs : SentPost v w T bp es G x e w') : Moved v w T bp (fp bp G es) (es.map Ent.pk ++ [x]) e w' := by
  obtain ⟨he, G', c', A, cc, hn, hA, hG, hk⟩ := hs
  refine ⟨he, _, ⟨_, _, _, hn, rfl, by rw [List.map_append]; rfl⟩, hk, fun k hm => ?_⟩
  rcases mem_fp.1 hm with h1 | h1 | ⟨z, hz, h1⟩
  · exact .inl (mem_fp.2 (.inl h1))
  · rcases hG k h1 with h2 | h2
    · exact .inl (mem_fp.2 (.inr (.inl h2)))
    · exact .inr h2
  · rcases List.mem_append.1 hz with hz | hz
    · exact .inl (mem_fp.2 (.inr (.inr ⟨z, hz, h1⟩)))
    · simp only [List.mem_singleton] at hz
      subst hz
      exact .inr (hA k h1)

section
variable {w : World} {bp : Nat} {F : List Nat} {L : List Pk}
theorem Net.len {T : Nat} (h : Net w T bp F L) : Calls Try.prog 9 #[.pointer (some ⟨bp, 0, none⟩)] w fun e w' => e = .returned (.int .i64 L.length) ∧ w = w' := by
  obtain ⟨es, G, c, hn, rfl, hL⟩ := h
  exact (len_any hn).mono fun e w' ⟨h1, h2⟩ => ⟨by rw [h1, pk_len hL], h2⟩

theorem Net.send (h : Net w 53 bp F L) (hl : L.length ≤ 1000000) (x : Pk) {A : Option Addr} {n c : Nat} (hb : Bts w A x.b) (hn : x.b.length = n) (hN : n ≤ 140737488355328) :
    Calls Try.prog 10 #[.pointer (some ⟨bp, 0, none⟩), .agg #[.int .i64 x.f, .int .i64 x.t, .slice A n c]] w (Moved (.tuple #[]) w 53 bp F (L ++ [x])) := by
  obtain ⟨es, G, c', hnet, rfl, rfl⟩ := h
  exact (send_any hnet (by simpa using hl) x A n c hb hn hN).mono fun e w' hs => moved_of_sent hs
theorem Net.rsend (h : Net w 29 bp F L) (hl : L.length ≤ 1000000) (x : Pk) {A : Option Addr} {n c : Nat} (hb : Bts w A x.b) (hn : x.b.length = n) (hN : n ≤ 140737488355328) :
    Calls Try.prog 11 #[.pointer (some ⟨bp, 0, none⟩), .agg #[.int .i64 x.f, .int .i64 x.t, .slice A n c]] w (Moved (.tuple #[]) w 29 bp F (L ++ [x])) := by
  obtain ⟨es, G, c', hnet, rfl, rfl⟩ := h
  exact (rsend_any hnet (by simpa using hl) x A n c hb hn hN).mono fun e w' hs => moved_of_sent hs

theorem Net.at_ (h : Net w 53 bp F L) {i : Nat} {x : Pk} (hx : L[i]? = some x) : Calls Try.prog 21 #[.pointer (some ⟨bp, 0, none⟩), .int .i64 i] w (Tells w F x) := by
  obtain ⟨es, G, c, hnet, rfl, hL⟩ := h
  obtain ⟨y, hy, rfl⟩ := pk_get hL hx
  exact (at_yes hnet i y hy).mono fun e w' ⟨g, he, hb, hg, hw⟩ => ⟨_, _, _, he, rfl, hb.bts, fun ad had => by injection had with had; subst had; exact .inr hg, hw⟩
theorem Net.rat_ (h : Net w 29 bp F L) {i : Nat} {x : Pk} (hx : L[i]? = some x) : Calls Try.prog 22 #[.pointer (some ⟨bp, 0, none⟩), .int .i64 i] w (Tells w F x) := by
  obtain ⟨es, G, c, hnet, rfl, hL⟩ := h
  obtain ⟨y, hy, rfl⟩ := pk_get hL hx
  refine (rat_yes hnet i y hy).mono fun e w' ⟨he, hw⟩ => ⟨_, _, _, he, rfl, (hnet.mem hy).bts.below' hw, fun ad had => ?_, hw⟩
  rcases hA : y.A with _ | ga
  · rw [hA] at had
    cases had
  · rw [hA] at had
    injection had with had
    subst had
    exact .inl (mem_fp.2 (.inr (.inr ⟨y, List.mem_of_getElem? hy, hA⟩)))
theorem Net.at_out (h : Net w 53 bp F L) {i : Int} (hi : Out i L) : Calls Try.prog 21 #[.pointer (some ⟨bp, 0, none⟩), .int .i64 i] w (Lacks w) := by
  obtain ⟨es, G, c, hnet, rfl, hL⟩ := h
  exact at_no hnet i (by rw [pk_len hL]; exact hi)
theorem Net.rat_out (h : Net w 29 bp F L) {i : Int} (hi : Out i L) : Calls Try.prog 22 #[.pointer (some ⟨bp, 0, none⟩), .int .i64 i] w (Lacks w) := by
  obtain ⟨es, G, c, hnet, rfl, hL⟩ := h
  exact rat_no hnet i (by rw [pk_len hL]; exact hi)

theorem fp_erase {G : Option Nat} {es : List Ent} {G' : Option Nat} {i n : Nat} (hG : ∀ k, G' = some k → G = some k ∨ n ≤ k) : ∀ k ∈ fp bp G' (es.eraseIdx i), k ∈ fp bp G es ∨ n ≤ k := by
  intro k hm
  rcases mem_fp.1 hm with h1 | h1 | ⟨z, hz, h1⟩
  · exact .inl (mem_fp.2 (.inl h1))
  · rcases hG k h1 with h2 | h2
    · exact .inl (mem_fp.2 (.inr (.inl h2)))
    · exact .inr h2
  · exact .inl (mem_fp.2 (.inr (.inr ⟨z, List.mem_of_mem_eraseIdx hz, h1⟩)))
theorem Net.take (h : Net w 53 bp F L) (hl : L.length ≤ 1000000) {i : Nat} {x : Pk} (hx : L[i]? = some x) : Calls Try.prog 12 #[.pointer (some ⟨bp, 0, none⟩), .int .i64 i] w (Taken w 53 bp F (L.eraseIdx i) x) := by
  obtain ⟨es, G, c, hnet, rfl, rfl⟩ := h
  obtain ⟨y, hy, rfl⟩ := pk_get rfl hx
  exact (take_yes hnet (by simpa using hl) i y hy).mono fun e w' ⟨A, n, c, he, hn, hb, hA, G', c', hnet', hG, hk⟩ => ⟨A, n, c, he, hn, hb, hA, _, ⟨_, _, _, hnet', rfl, map_erase es i⟩, hk, fp_erase hG⟩
theorem Net.rtake (h : Net w 29 bp F L) (hl : L.length ≤ 1000000) {i : Nat} {x : Pk} (hx : L[i]? = some x) : Calls Try.prog 13 #[.pointer (some ⟨bp, 0, none⟩), .int .i64 i] w (Taken w 29 bp F (L.eraseIdx i) x) := by
  obtain ⟨es, G, c, hnet, rfl, rfl⟩ := h
  obtain ⟨y, hy, rfl⟩ := pk_get rfl hx
  exact (rtake_yes hnet (by simpa using hl) i y hy).mono fun e w' ⟨A, n, c, he, hn, hb, hA, G', c', hnet', hG, hk⟩ => ⟨A, n, c, he, hn, hb, hA, _, ⟨_, _, _, hnet', rfl, map_erase es i⟩, hk, fp_erase hG⟩
theorem Net.take_out (h : Net w 53 bp F L) {i : Int} (hi : Out i L) : Calls Try.prog 12 #[.pointer (some ⟨bp, 0, none⟩), .int .i64 i] w (Lacks w) := by
  obtain ⟨es, G, c, hnet, rfl, hL⟩ := h
  exact take_no hnet i (by rw [pk_len hL]; exact hi)
theorem Net.rtake_out (h : Net w 29 bp F L) {i : Int} (hi : Out i L) : Calls Try.prog 13 #[.pointer (some ⟨bp, 0, none⟩), .int .i64 i] w (Lacks w) := by
  obtain ⟨es, G, c, hnet, rfl, hL⟩ := h
  exact rtake_no hnet i (by rw [pk_len hL]; exact hi)

theorem Net.double (h : Net w 53 bp F L) (hl : L.length ≤ 1000000) {i : Nat} {x : Pk} (hx : L[i]? = some x) : Calls Try.prog 15 #[.pointer (some ⟨bp, 0, none⟩), .int .i64 i] w (Moved (.bool true) w 53 bp F (L ++ [x])) := by
  obtain ⟨es, G, c, hnet, rfl, rfl⟩ := h
  obtain ⟨y, hy, rfl⟩ := pk_get rfl hx
  exact (double_yes hnet (by simpa using hl) i y hy).mono fun e w' hs => moved_of_sent hs
theorem Net.rdouble (h : Net w 29 bp F L) (hl : L.length ≤ 1000000) {i : Nat} {x : Pk} (hx : L[i]? = some x) : Calls Try.prog 16 #[.pointer (some ⟨bp, 0, none⟩), .int .i64 i] w (Moved (.bool true) w 29 bp F (L ++ [x])) := by
  obtain ⟨es, G, c, hnet, rfl, rfl⟩ := h
  obtain ⟨y, hy, rfl⟩ := pk_get rfl hx
  exact (rdouble_yes hnet (by simpa using hl) i y hy).mono fun e w' hs => moved_of_sent hs
theorem Net.double_out (h : Net w 53 bp F L) {i : Int} (hi : Out i L) : Calls Try.prog 15 #[.pointer (some ⟨bp, 0, none⟩), .int .i64 i] w (Quiet (.bool false) w) := by
  obtain ⟨es, G, c, hnet, rfl, hL⟩ := h
  exact double_no hnet i (by rw [pk_len hL]; exact hi)
theorem Net.rdouble_out (h : Net w 29 bp F L) {i : Int} (hi : Out i L) : Calls Try.prog 16 #[.pointer (some ⟨bp, 0, none⟩), .int .i64 i] w (Quiet (.bool false) w) := by
  obtain ⟨es, G, c, hnet, rfl, hL⟩ := h
  exact rdouble_no hnet i (by rw [pk_len hL]; exact hi)

theorem swap_moved {T : Nat} {es : List Ent} {G : Option Nat} {c i j : Nat} {x y : Ent} (hnet : NetAt w T bp es G c) (hx : es[i]? = some x) (hy : es[j]? = some y) {e : Ending} {w' : World}
    (hs : e = .returned (.bool true) ∧ ∃ g, G = some g ∧ w' = (put3 (put3 w g i y) g j x).drew) : Moved (.bool true) w T bp (fp bp G es) (((es.map Ent.pk).set i y.pk).set j x.pk) e w' := by
  obtain ⟨he, g, hG, hw⟩ := hs
  subst hG
  have hg : g ∈ fp bp (some g) es := mem_fp.2 (.inr (.inl rfl))
  have h1 := (hnet.swapped hx hy).keep (w' := w') (fun _ _ => by rw [hw, heap_drew])
  have h2 : Kept (fp bp (some g) es) w w' := by
    rw [hw]
    exact ((put3_kept hg).trans (put3_kept hg)).drew
  have h3 : ((es.set i y).set j x).map Ent.pk = ((es.map Ent.pk).set i y.pk).set j x.pk := by rw [List.map_set, List.map_set]
  refine ⟨he, _, ⟨_, _, _, h1, rfl, h3⟩, h2, fun k hm => .inl ?_⟩
  rcases mem_fp.1 hm with h1 | h1 | ⟨z, hz, h1⟩
  · exact mem_fp.2 (.inl h1)
  · exact mem_fp.2 (.inr (.inl h1))
  · exact mem_fp.2 (.inr (.inr ⟨z, mem_swapped hx hy z hz, h1⟩))
theorem Net.swap (h : Net w 53 bp F L) {i j : Nat} {x y : Pk} (hx : L[i]? = some x) (hy : L[j]? = some y) : Calls Try.prog 17 #[.pointer (some ⟨bp, 0, none⟩), .int .i64 i, .int .i64 j] w (Moved (.bool true) w 53 bp F ((L.set i y).set j x)) := by
  obtain ⟨es, G, c, hnet, rfl, rfl⟩ := h
  obtain ⟨a, ha, rfl⟩ := pk_get rfl hx
  obtain ⟨b, hb, rfl⟩ := pk_get rfl hy
  exact (swap_yes hnet i j a b ha hb).mono fun e w' hs => swap_moved hnet ha hb hs
theorem Net.rswap (h : Net w 29 bp F L) {i j : Nat} {x y : Pk} (hx : L[i]? = some x) (hy : L[j]? = some y) : Calls Try.prog 18 #[.pointer (some ⟨bp, 0, none⟩), .int .i64 i, .int .i64 j] w (Moved (.bool true) w 29 bp F ((L.set i y).set j x)) := by
  obtain ⟨es, G, c, hnet, rfl, rfl⟩ := h
  obtain ⟨a, ha, rfl⟩ := pk_get rfl hx
  obtain ⟨b, hb, rfl⟩ := pk_get rfl hy
  exact (rswap_yes hnet i j a b ha hb).mono fun e w' hs => swap_moved hnet ha hb hs
theorem Net.swap_out (h : Net w 53 bp F L) {i j : Int} (hi : Out i L ∨ Out j L) : Calls Try.prog 17 #[.pointer (some ⟨bp, 0, none⟩), .int .i64 i, .int .i64 j] w (Quiet (.bool false) w) := by
  obtain ⟨es, G, c, hnet, rfl, hL⟩ := h
  exact (swap_no hnet i j (by rw [pk_len hL]; exact hi)).mono fun e w' ⟨h1, h2⟩ => ⟨h1, h2 ▸ Below.refl _ _⟩
theorem Net.rswap_out (h : Net w 29 bp F L) {i j : Int} (hi : Out i L ∨ Out j L) : Calls Try.prog 18 #[.pointer (some ⟨bp, 0, none⟩), .int .i64 i, .int .i64 j] w (Quiet (.bool false) w) := by
  obtain ⟨es, G, c, hnet, rfl, hL⟩ := h
  exact (rswap_no hnet i j (by rw [pk_len hL]; exact hi)).mono fun e w' ⟨h1, h2⟩ => ⟨h1, h2 ▸ Below.refl _ _⟩

/-- The list behind a spoiling: the parcel x at i, its byte v at k. -/
def spoiltAt (L : List Pk) (i : Nat) (x : Pk) (k : Nat) (v : UInt8) (b : Int) : List Pk := L.set i ⟨x.f, x.t, x.b.set k (spoilt v b)⟩

theorem Net.spoil (h : Net w 53 bp F L) {i k : Nat} {x : Pk} {v : UInt8} {b : Int} (hx : L[i]? = some x) (hv : x.b[k]? = some v) (hb : (b % 256 == 0) = false) : Calls Try.prog 19 #[.pointer (some ⟨bp, 0, none⟩), .int .i64 i, .int .i64 k, .int .i64 b] w (Moved (.bool true) w 53 bp F (spoiltAt L i x k v b)) := by
  obtain ⟨es, G, c, hnet, rfl, rfl⟩ := h
  obtain ⟨y, hy, rfl⟩ := pk_get rfl hx
  refine (spoil_yes hnet i y hy k v hv b hb).mono fun e w' ⟨he, gA, hA, hw⟩ => ?_
  subst hw
  have hk : k < y.b.length := (List.getElem?_eq_some_iff.1 hv).1
  have hgA : gA ∈ fp bp G es := mem_fp.2 (.inr (.inr ⟨y, List.mem_of_getElem? hy, hA⟩))
  refine ⟨he, _, ⟨_, _, _, hnet.spoilt hy hA k (spoilt v b) hk, rfl, by rw [List.map_set]; rfl⟩, (Kept.refl _ w).setCell (p := ⟨gA, k, none⟩) (.inl hgA) _, fun k hm => .inl ?_⟩
  rw [NetAt.spoilt_fp hy] at hm
  exact hm
theorem Net.rspoil (h : Net w 29 bp F L) {i k : Nat} {x : Pk} {v : UInt8} {b : Int} (hx : L[i]? = some x) (hv : x.b[k]? = some v) (hb : (b % 256 == 0) = false) : Calls Try.prog 20 #[.pointer (some ⟨bp, 0, none⟩), .int .i64 i, .int .i64 k, .int .i64 b] w (Moved (.bool true) w 29 bp F (spoiltAt L i x k v b)) := by
  obtain ⟨es, G, c, hnet, rfl, rfl⟩ := h
  obtain ⟨y, hy, rfl⟩ := pk_get rfl hx
  refine (rspoil_yes hnet i y hy k v hv b hb).mono fun e w' ⟨he, A', c', hnet', hA, hk⟩ => ⟨he, _, ⟨_, _, _, hnet', rfl, by rw [List.map_set]; rfl⟩, hk, fun k hm => ?_⟩
  rcases mem_fp.1 hm with h1 | h1 | ⟨z, hz, h1⟩
  · exact .inl (mem_fp.2 (.inl h1))
  · exact .inl (mem_fp.2 (.inr (.inl h1)))
  · rcases mem_set hz with rfl | ⟨j, _, hj⟩
    · exact .inr (hA k h1)
    · exact .inl (mem_fp.2 (.inr (.inr ⟨z, List.mem_of_getElem? hj, h1⟩)))
/-- Nothing to spoil. -/
def NoSpoil (L : List Pk) (i k b : Int) : Prop := Out i L ∨ ∃ (j : Nat) (x : Pk), i = j ∧ L[j]? = some x ∧ ((k < 0 ∨ (x.b.length : Int) ≤ k) ∨ b % 256 = 0)
theorem nospoil_es {es : List Ent} {i k b : Int} (h : NoSpoil (es.map Ent.pk) i k b) : (i < 0 ∨ (es.length : Int) ≤ i) ∨ ∃ (j : Nat) (x : Ent), i = j ∧ es[j]? = some x ∧ ((k < 0 ∨ (x.b.length : Int) ≤ k) ∨ b % 256 = 0) := by
  rcases h with h | ⟨j, x, hi, hx, h⟩
  · left
    unfold Out at h
    rwa [List.length_map] at h
  · obtain ⟨y, hy, rfl⟩ := pk_get rfl hx
    exact .inr ⟨j, y, hi, hy, h⟩
theorem Net.spoil_out (h : Net w 53 bp F L) {i k b : Int} (hi : NoSpoil L i k b) : Calls Try.prog 19 #[.pointer (some ⟨bp, 0, none⟩), .int .i64 i, .int .i64 k, .int .i64 b] w (Quiet (.bool false) w) := by
  obtain ⟨es, G, c, hnet, rfl, rfl⟩ := h
  exact (spoil_no hnet i k b (nospoil_es hi)).mono fun e w' ⟨h1, h2⟩ => ⟨h1, h2 ▸ Below.refl _ _⟩
theorem Net.rspoil_out (h : Net w 29 bp F L) {i k b : Int} (hi : NoSpoil L i k b) : Calls Try.prog 20 #[.pointer (some ⟨bp, 0, none⟩), .int .i64 i, .int .i64 k, .int .i64 b] w (Quiet (.bool false) w) := by
  obtain ⟨es, G, c, hnet, rfl, rfl⟩ := h
  exact (rspoil_no hnet i k b (nospoil_es hi)).mono fun e w' ⟨h1, h2⟩ => ⟨h1, h2 ▸ Below.refl _ _⟩
end
end Go.Proofs.Ytgepnglmhalomaa

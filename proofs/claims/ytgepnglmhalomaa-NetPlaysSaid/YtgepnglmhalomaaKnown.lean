/-
  Own text. A net that the call itself made; the walks over New and known.
-/
import Derived.Test.YtgepnglmhalomaaActs
namespace Go.Proofs.Ytgepnglmhalomaa
open Go.RowKit

/-- The program's net at bp, made since the world was w0, reads as L; it holds none of the blocks Ps. -/
def Mine (w0 : World) (Ps : List Nat) (w : World) (bp : Nat) (L : List Pk) : Prop := ∃ F, Net w 53 bp F L ∧ (∀ k ∈ F, w0.heap.size ≤ k ∧ k ∉ Ps) ∧ Below w0.heap.size w0 w ∧ ∀ k ∈ Ps, k < w.heap.size

theorem Mine.below {w0 w w' : World} {Ps : List Nat} {bp : Nat} {L : List Pk} (h : Mine w0 Ps w bp L) (hb : Below w.heap.size w w') : Mine w0 Ps w' bp L := by
  obtain ⟨F, hn, hF, hw, hP⟩ := h
  exact ⟨F, hn.below hb, hF, hw.trans (hb.mono hw.size), fun k hk => Nat.lt_of_lt_of_le (hP k hk) hb.size⟩
theorem Mine.alloc {w0 w : World} {Ps : List Nat} {bp : Nat} {L : List Pk} (h : Mine w0 Ps w bp L) (o : Obj) : Mine w0 Ps (w.alloc o) bp L := h.below ((Below.refl _ _).alloc (Nat.le_refl _) o)
theorem Mine.drewN {w0 w : World} {Ps : List Nat} {bp : Nat} {L : List Pk} (h : Mine w0 Ps w bp L) (n : Nat) : Mine w0 Ps (w.drewN n) bp L := h.below (below_drewN (Below.refl _ _) n)
/-- A block that has just been laid is none of the net's. -/
theorem Mine.keep {w0 w : World} {Ps : List Nat} {bp : Nat} {L : List Pk} (h : Mine w0 Ps w bp L) (o : Obj) : Mine w0 (w.heap.size :: Ps) (w.alloc o) bp L := by
  obtain ⟨F, hn, hF, hw, hP⟩ := h
  refine ⟨F, hn.below ((Below.refl _ _).alloc (Nat.le_refl _) o), fun k hk => ⟨(hF k hk).1, fun hm => ?_⟩, hw.alloc hw.size o, fun k hk => ?_⟩
  · rcases List.mem_cons.1 hm with h | h
    · have := hn.lt k hk
      omega
    · exact (hF k hk).2 h
  · rw [World.size_alloc]
    rcases List.mem_cons.1 hk with h | h
    · omega
    · have := hP k h
      omega
theorem Mine.world {w0 w : World} {Ps : List Nat} {bp : Nat} {L : List Pk} (h : Mine w0 Ps w bp L) : Below w0.heap.size w0 w := by
  obtain ⟨F, _, _, hw, _⟩ := h
  exact hw
/-- A store into a block that is none of the net's. -/
theorem Mine.store {w0 w : World} {Ps : List Nat} {bp : Nat} {L : List Pk} (h : Mine w0 Ps w bp L) {p : Addr} (hp : p.block ∈ Ps) (hb : w0.heap.size ≤ p.block) (u : Value) : Mine w0 Ps (w.setCell p u) bp L := by
  obtain ⟨F, hn, hF, hw, hP⟩ := h
  exact ⟨F, hn.keep fun k hk => Below.heap_setCell _ _ _ _ (fun e => (hF k hk).2 (e ▸ hp)), hF, hw.setCell hb u, fun k hk => by simpa [World.setCell] using hP k hk⟩
theorem Mine.next {w0 w w' : World} {Ps : List Nat} {bp : Nat} {L' : List Pk} {F F' : List Nat} (hw : Below w0.heap.size w0 w) (hF : ∀ k ∈ F, w0.heap.size ≤ k ∧ k ∉ Ps) (hP : ∀ k ∈ Ps, k < w.heap.size) (hn : Net w' 53 bp F' L') (hk : Kept F w w') (hF' : ∀ k ∈ F', k ∈ F ∨ w.heap.size ≤ k) :
    Mine w0 Ps w' bp L' ∧ ∀ k ∈ Ps, w'.heap[k]? = w.heap[k]? :=
  ⟨⟨F', hn, fun k hm => by
    rcases hF' k hm with h | h
    · exact hF k h
    · exact ⟨Nat.le_trans hw.size h, fun hm' => by have := hP k hm'; omega⟩, hw.trans (hk.belowOf (fun k hm => (hF k hm).1) hw.size), fun k hm => Nat.lt_of_lt_of_le (hP k hm) hk.size⟩,
    fun k hm => hk.block k (hP k hm) (fun hm' => (hF k hm').2 hm)⟩

/-- The call answers v; the net that was made since w0 reads as L'; the blocks Ps are as they were. -/
def Does (v : Value) (w0 : World) (Ps : List Nat) (w : World) (bp : Nat) (L' : List Pk) (e : Ending) (w' : World) : Prop := e = .returned v ∧ Mine w0 Ps w' bp L' ∧ ∀ k ∈ Ps, w'.heap[k]? = w.heap[k]?
/-- The call tells the parcel x, and true; the net that was made since w0 reads as L'; the blocks Ps are as they were. -/
def Gives (w0 : World) (Ps : List Nat) (w : World) (bp : Nat) (L' : List Pk) (x : Pk) (e : Ending) (w' : World) : Prop :=
  ∃ A n c, e = .returned (.tuple #[.agg #[.int .i64 x.f, .int .i64 x.t, .slice A n c], .bool true]) ∧ n = x.b.length ∧ Bts w' A x.b ∧ Mine w0 Ps w' bp L' ∧ ∀ k ∈ Ps, w'.heap[k]? = w.heap[k]?

section
variable {w0 w : World} {Ps : List Nat} {bp : Nat} {L : List Pk}
theorem Mine.len (h : Mine w0 Ps w bp L) : Calls Try.prog 9 #[.pointer (some ⟨bp, 0, none⟩)] w fun e w' => e = .returned (.int .i64 L.length) ∧ w = w' := by
  obtain ⟨F, hn, _⟩ := h
  exact hn.len
theorem Mine.send (h : Mine w0 Ps w bp L) (hl : L.length ≤ 1000000) (x : Pk) {A : Option Addr} {n c : Nat} (hb : Bts w A x.b) (hn : x.b.length = n) (hN : n ≤ 140737488355328) :
    Calls Try.prog 10 #[.pointer (some ⟨bp, 0, none⟩), .agg #[.int .i64 x.f, .int .i64 x.t, .slice A n c]] w (Does (.tuple #[]) w0 Ps w bp (L ++ [x])) := by
  obtain ⟨F, hnet, hF, hw, hP⟩ := h
  exact (hnet.send hl x hb hn hN).mono fun e w' ⟨he, F', h1, h2, h3⟩ => ⟨he, Mine.next hw hF hP h1 h2 h3⟩
theorem Mine.at_ (h : Mine w0 Ps w bp L) {i : Nat} {x : Pk} (hx : L[i]? = some x) : Calls Try.prog 21 #[.pointer (some ⟨bp, 0, none⟩), .int .i64 i] w (AtPost w x) := by
  obtain ⟨F, hnet, hF, hw⟩ := h
  obtain ⟨es, G, c, hn, rfl, hL⟩ := hnet
  obtain ⟨y, hy, rfl⟩ := pk_get hL hx
  exact at_yes hn i y hy
theorem Mine.take (h : Mine w0 Ps w bp L) (hl : L.length ≤ 1000000) {i : Nat} {x : Pk} (hx : L[i]? = some x) : Calls Try.prog 12 #[.pointer (some ⟨bp, 0, none⟩), .int .i64 i] w (Gives w0 Ps w bp (L.eraseIdx i) x) := by
  obtain ⟨F, hnet, hF, hw, hP⟩ := h
  exact (hnet.take hl hx).mono fun e w' ⟨A, n, c, he, hn, hb, _, F', h1, h2, h3⟩ => ⟨A, n, c, he, hn, hb, Mine.next hw hF hP h1 h2 h3⟩
theorem Mine.double (h : Mine w0 Ps w bp L) (hl : L.length ≤ 1000000) {i : Nat} {x : Pk} (hx : L[i]? = some x) : Calls Try.prog 15 #[.pointer (some ⟨bp, 0, none⟩), .int .i64 i] w (Does (.bool true) w0 Ps w bp (L ++ [x])) := by
  obtain ⟨F, hnet, hF, hw, hP⟩ := h
  exact (hnet.double hl hx).mono fun e w' ⟨he, F', h1, h2, h3⟩ => ⟨he, Mine.next hw hF hP h1 h2 h3⟩
theorem Mine.swap (h : Mine w0 Ps w bp L) {i j : Nat} {x y : Pk} (hx : L[i]? = some x) (hy : L[j]? = some y) : Calls Try.prog 17 #[.pointer (some ⟨bp, 0, none⟩), .int .i64 i, .int .i64 j] w (Does (.bool true) w0 Ps w bp ((L.set i y).set j x)) := by
  obtain ⟨F, hnet, hF, hw, hP⟩ := h
  exact (hnet.swap hx hy).mono fun e w' ⟨he, F', h1, h2, h3⟩ => ⟨he, Mine.next hw hF hP h1 h2 h3⟩
theorem Mine.spoil (h : Mine w0 Ps w bp L) {i k : Nat} {x : Pk} {v : UInt8} {b : Int} (hx : L[i]? = some x) (hv : x.b[k]? = some v) (hb : (b % 256 == 0) = false) : Calls Try.prog 19 #[.pointer (some ⟨bp, 0, none⟩), .int .i64 i, .int .i64 k, .int .i64 b] w (Does (.bool true) w0 Ps w bp (spoiltAt L i x k v b)) := by
  obtain ⟨F, hnet, hF, hw, hP⟩ := h
  exact (hnet.spoil hx hv hb).mono fun e w' ⟨he, F', h1, h2, h3⟩ => ⟨he, Mine.next hw hF hP h1 h2 h3⟩
theorem Mine.spoil_out (h : Mine w0 Ps w bp L) {i k b : Int} (hi : NoSpoil L i k b) : Calls Try.prog 19 #[.pointer (some ⟨bp, 0, none⟩), .int .i64 i, .int .i64 k, .int .i64 b] w (Does (.bool false) w0 Ps w bp L) := by
  have hm := h
  obtain ⟨F, hnet, hF, hw, hP⟩ := h
  exact (hnet.spoil_out hi).mono fun e w' ⟨he, hb⟩ => ⟨he, hm.below hb, fun k hk => hb.block k (hP k hk)⟩

/-- One byte that a slice tells. -/
theorem Bts.one {A : Option Addr} {v : UInt8} (h : Bts w A [v]) : ∃ ad, A = some ad ∧ w.cell? ad = some (.int .u8 (v.toNat : Int)) := by
  obtain ⟨ad, hA, hc⟩ := h (by simp)
  refine ⟨ad, hA, ?_⟩
  have := hc 0 (bval v) rfl
  simpa [Addr.add, bval] using this
end

set_option maxHeartbeats 400000 in
theorem new_any (w : World) : Calls Try.prog 7 #[] w fun e w' => ∃ bp, e = .returned (.pointer (some ⟨bp, 0, none⟩)) ∧ bp = w.heap.size ∧ Mine w [] w' bp [] := by
  go_enter Try.func7, Try.ntmps7
  go_wp2
  go_ret
  exact ⟨_, rfl, rfl, _, Net.new w 53, by simp, (Below.refl _ _).alloc (Nat.le_refl _) _, by simp⟩

set_option maxHeartbeats 1000000 in
theorem known_any (w : World) : Calls Try.prog 6 #[] w (Quiet (.bool true) w) := by
  go_enter Try.func6, Try.ntmps6
  go_wp2_with fail
  refine (new_any _).mono ?_
  rintro e w1 ⟨bp, rfl, hbp, hn⟩
  have HN := Lib.hid hn
  clear hn hbp
  go_wp2_with fail
  refine ((HN.out.alloc _).send (by simp) ⟨1, 2, [5]⟩ ((Blk.new w1 5 #[.int .u8 5]).bts (bs := [5])) rfl (by simp)).mono ?_
  rintro e w2 ⟨rfl, hn, _⟩
  have HN2 := Lib.hid hn
  clear hn HN
  go_wp2_with fail
  refine ((HN2.out.alloc _).send (by simp) ⟨3, 4, [6]⟩ ((Blk.new w2 5 #[.int .u8 6]).bts (bs := [6])) rfl (by simp)).mono ?_
  rintro e w3 ⟨rfl, hn, _⟩
  have HN3 := Lib.hid hn
  clear hn HN2
  go_wp2_with fail
  refine (HN3.out.swap (i := 0) (j := 1) (x := ⟨1, 2, [5]⟩) (y := ⟨3, 4, [6]⟩) rfl rfl).mono ?_
  rintro e w4 ⟨rfl, hn, _⟩
  have HN4 := Lib.hid hn
  clear hn HN3
  go_wp2_with fail
  refine (HN4.out.double (by simp) (i := 0) (x := ⟨3, 4, [6]⟩) rfl).mono ?_
  rintro e w5 ⟨rfl, hn, _⟩
  have HN5 := Lib.hid hn
  clear hn HN4
  go_wp2_with fail
  refine (HN5.out.spoil (i := 2) (k := 0) (x := ⟨3, 4, [6]⟩) (v := 6) (b := 257) rfl rfl rfl).mono ?_
  rintro e w6 ⟨rfl, hn, _⟩
  have HN6 := Lib.hid hn
  clear hn HN5
  go_wp2_with fail
  refine (HN6.out.spoil_out (i := 0) (k := 1) (b := 1) (.inr ⟨0, ⟨3, 4, [6]⟩, rfl, rfl, by simp⟩)).mono ?_
  rintro e w7 ⟨rfl, hn, _⟩
  have HN7 := Lib.hid hn
  clear hn HN6
  go_wp2_with fail
  refine (HN7.out.take (by simp [spoiltAt]) (i := 2) (x := ⟨3, 4, [7]⟩) rfl).mono ?_
  rintro e w8 ⟨A, n, c, rfl, hl, hb, hn, _⟩
  simp only [List.length_cons, List.length_nil] at hl
  subst hl
  obtain ⟨ad, rfl, hc⟩ := hb.one
  have HN8 := Lib.hid hn
  have had := block_lt_of_cell hc
  clear hn HN7 hb
  go_wp2_with fail
  refine ((HN8.out.alloc _).at_ (i := 0) (x := ⟨3, 4, [6]⟩) rfl).mono ?_
  rintro e w9 ⟨g9, rfl, hb, _, hw⟩
  have hc' := hb.cell 0
  have HN9 := Lib.hid ((HN8.out.alloc _).below hw)
  have had' := block_lt_of_cell hc'
  have hs := hw.size
  simp only [World.size_alloc] at hs
  have h1 : w9.cell? ad = some (.int .u8 7) := (hw.cell (by simp; omega)).trans ((World.cell?_alloc_lt _ _ _ had).trans hc)
  have had1 : ad.block < w9.heap.size := by omega
  have hp := (Blk.new w8 32 #[.int .i64 3, .int .i64 4, .slice (some ad) 1 c]).below hw (by simp)
  have p0 := hp.cell 0
  have p1 := hp.cell 1
  have p2 := hp.cell 2
  simp [bval] at p0 p1 p2 hc'
  have h8 : w8.heap.size < w9.heap.size := by omega
  clear hb hw hc had HN8 hp hs
  go_wp2_with (go_at_call 9; refine ((HN9.out.alloc _).len).mono ?_; rintro e w' ⟨rfl, rfl⟩)
  go_ret
  exact ⟨rfl, (HN9.out.alloc _).world⟩
end Go.Proofs.Ytgepnglmhalomaa

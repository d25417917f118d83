/-
  Own text. Two nets side by side, the program's and the reference's, each the call's own; their blocks have none in common.
-/
import Derived.Test.YtgepnglmhalomaaSpoilA
namespace Go.Proofs.Ytgepnglmhalomaa
open Go.RowKit

/-- The net at b1 (type T1) reads as L1, the one at b2 (type T2) as L2; both were made since w0; no block is in both, none is one of Ps. -/
def Both (w0 : World) (Ps : List Nat) (w : World) (T1 b1 : Nat) (L1 : List Pk) (T2 b2 : Nat) (L2 : List Pk) : Prop :=
  ∃ F1 F2, Net w T1 b1 F1 L1 ∧ Net w T2 b2 F2 L2 ∧ (∀ k ∈ F1, w0.heap.size ≤ k ∧ k ∉ Ps ∧ k ∉ F2) ∧ (∀ k ∈ F2, w0.heap.size ≤ k ∧ k ∉ Ps) ∧ Below w0.heap.size w0 w ∧ ∀ k ∈ Ps, k < w.heap.size

section
variable {w0 w w' : World} {Ps : List Nat} {T1 b1 T2 b2 : Nat} {L1 L2 : List Pk}
theorem Both.world (h : Both w0 Ps w T1 b1 L1 T2 b2 L2) : Below w0.heap.size w0 w := by
  obtain ⟨_, _, _, _, _, _, hw, _⟩ := h
  exact hw
theorem Both.comm (h : Both w0 Ps w T1 b1 L1 T2 b2 L2) : Both w0 Ps w T2 b2 L2 T1 b1 L1 := by
  obtain ⟨F1, F2, h1, h2, h3, h4, h5, h6⟩ := h
  exact ⟨F2, F1, h2, h1, fun k hk => ⟨(h4 k hk).1, (h4 k hk).2, fun hm => (h3 k hm).2.2 hk⟩, fun k hk => ⟨(h3 k hk).1, (h3 k hk).2.1⟩, h5, h6⟩
theorem Both.below (h : Both w0 Ps w T1 b1 L1 T2 b2 L2) (hb : Below w.heap.size w w') : Both w0 Ps w' T1 b1 L1 T2 b2 L2 := by
  obtain ⟨F1, F2, h1, h2, h3, h4, h5, h6⟩ := h
  exact ⟨F1, F2, h1.below hb, h2.below hb, h3, h4, h5.trans (hb.mono h5.size), fun k hk => Nat.lt_of_lt_of_le (h6 k hk) hb.size⟩
/-- A block that has just been laid is none of the nets'. -/
theorem Both.keep (h : Both w0 Ps w T1 b1 L1 T2 b2 L2) (o : Obj) : Both w0 (w.heap.size :: Ps) (w.alloc o) T1 b1 L1 T2 b2 L2 := by
  obtain ⟨F1, F2, h1, h2, h3, h4, h5, h6⟩ := h
  have hb : Below w.heap.size w (w.alloc o) := (Below.refl _ _).alloc (Nat.le_refl _) o
  refine ⟨F1, F2, h1.below hb, h2.below hb, fun k hk => ⟨(h3 k hk).1, fun hm => ?_, (h3 k hk).2.2⟩, fun k hk => ⟨(h4 k hk).1, fun hm => ?_⟩, h5.alloc h5.size o, fun k hk => ?_⟩
  · rcases List.mem_cons.1 hm with h | h
    · have := h1.lt k hk
      omega
    · exact (h3 k hk).2.1 h
  · rcases List.mem_cons.1 hm with h | h
    · have := h2.lt k hk
      omega
    · exact (h4 k hk).2 h
  · rw [World.size_alloc]
    rcases List.mem_cons.1 hk with h | h
    · omega
    · have := h6 k h
      omega
theorem Both.weak {Ps' : List Nat} (h : Both w0 Ps w T1 b1 L1 T2 b2 L2) (hs : ∀ k ∈ Ps', k ∈ Ps) : Both w0 Ps' w T1 b1 L1 T2 b2 L2 := by
  obtain ⟨F1, F2, h1, h2, h3, h4, h5, h6⟩ := h
  exact ⟨F1, F2, h1, h2, fun k hk => ⟨(h3 k hk).1, fun hm => (h3 k hk).2.1 (hs k hm), (h3 k hk).2.2⟩, fun k hk => ⟨(h4 k hk).1, fun hm => (h4 k hk).2 (hs k hm)⟩, h5, fun k hk => h6 k (hs k hk)⟩
/-- The first net has moved on. -/
theorem Both.next {F1 F1' F2 : List Nat} {L1' : List Pk} (h2 : Net w T2 b2 F2 L2) (h3 : ∀ k ∈ F1, w0.heap.size ≤ k ∧ k ∉ Ps ∧ k ∉ F2) (h4 : ∀ k ∈ F2, w0.heap.size ≤ k ∧ k ∉ Ps) (h5 : Below w0.heap.size w0 w) (h6 : ∀ k ∈ Ps, k < w.heap.size)
    (hn : Net w' T1 b1 F1' L1') (hk : Kept F1 w w') (hF : ∀ k ∈ F1', k ∈ F1 ∨ w.heap.size ≤ k) : Both w0 Ps w' T1 b1 L1' T2 b2 L2 ∧ ∀ k ∈ Ps, w'.heap[k]? = w.heap[k]? := by
  refine ⟨⟨F1', F2, hn, h2.kept hk (fun k hk2 hk1 => (h3 k hk1).2.2 hk2), fun k hm => ?_, h4, h5.trans (hk.belowOf (fun k hm => (h3 k hm).1) h5.size), fun k hm => Nat.lt_of_lt_of_le (h6 k hm) hk.size⟩, fun k hm => hk.block k (h6 k hm) (fun hm' => (h3 k hm').2.1 hm)⟩
  rcases hF k hm with h | h
  · exact h3 k h
  · exact ⟨Nat.le_trans h5.size h, fun hp => by have := h6 k hp; omega, fun hf => by have := h2.lt k hf; omega⟩

/-- The call answers v; the first net reads as L1' now; the second, and the blocks Ps, are as they were. -/
def Did (v : Value) (w0 : World) (Ps : List Nat) (w : World) (T1 b1 : Nat) (L1' : List Pk) (T2 b2 : Nat) (L2 : List Pk) (e : Ending) (w' : World) : Prop :=
  e = .returned v ∧ Both w0 Ps w' T1 b1 L1' T2 b2 L2 ∧ ∀ k ∈ Ps, w'.heap[k]? = w.heap[k]?
theorem Both.did {P : Program} {f : FuncId} {args : Array Value} {v : Value} {L1' : List Pk} (h : Both w0 Ps w T1 b1 L1 T2 b2 L2) (hc : ∀ F, Net w T1 b1 F L1 → Calls P f args w (Moved v w T1 b1 F L1')) : Calls P f args w (Did v w0 Ps w T1 b1 L1' T2 b2 L2) := by
  obtain ⟨F1, F2, h1, h2, h3, h4, h5, h6⟩ := h
  exact (hc F1 h1).mono fun e w' ⟨he, F', hn, hk, hF⟩ => ⟨he, Both.next h2 h3 h4 h5 h6 hn hk hF⟩
theorem Both.quiet {P : Program} {f : FuncId} {args : Array Value} {v : Value} (h : Both w0 Ps w T1 b1 L1 T2 b2 L2) (hc : Calls P f args w (Quiet v w)) : Calls P f args w (Did v w0 Ps w T1 b1 L1 T2 b2 L2) :=
  hc.mono fun e w' ⟨he, hb⟩ => ⟨he, h.below hb, fun k hk => hb.block k (by obtain ⟨_, _, _, _, _, _, _, h6⟩ := h; exact h6 k hk)⟩
end
end Go.Proofs.Ytgepnglmhalomaa

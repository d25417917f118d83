/-
  Own text. What a parcel and a net look like in memory: blocks that are known whole, slices that read as bytes, a net that reads as a list of parcels.
-/
import Derived.Test.YtgepnglmhalomaaRows
import Derived.WalkKit
import Derived.WalkSpells
import Derived.WalkLawsBesides
import Derived.Laws.CopyOwn
import Derived.Lib.Hide
import Derived.Outline
import Derived.Deep.DeepCutAuto
import Derived.Deep.DeepFit
import Derived.Deep.DeepMust
namespace Go.Proofs.Ytgepnglmhalomaa
open Go.RowKit

/-- Block g is just the cells cs of element type t, none frozen. -/
def Blk (w : World) (g : Nat) (t : TypeId) (cs : Array Value) : Prop := w.heap[g]? = some (.cells cs t (0, 0))

section
variable {w w' : World} {g : Nat} {t : TypeId} {cs : Array Value}
theorem Blk.lt (h : Blk w g t cs) : g < w.heap.size := by
  rcases Nat.lt_or_ge g w.heap.size with hlt | hge
  · exact hlt
  · unfold Blk at h; rw [Array.getElem?_eq_none hge] at h; cases h
theorem Blk.cell (h : Blk w g t cs) (i : Nat) : w.cell? ⟨g, i, none⟩ = cs[i]? := cell_of_row w g i cs t (0, 0) h
theorem Blk.frozen (h : Blk w g t cs) (i : Nat) : w.frozen? ⟨g, i, none⟩ = false := by
  unfold Blk at h
  simp [World.frozen?, h]
theorem Blk.new (w : World) (t : TypeId) (cs : Array Value) : Blk (w.alloc (.cells cs t)) w.heap.size t cs := heap_alloc_new w _
theorem Blk.drew (h : Blk w g t cs) : Blk w.drew g t cs := h
theorem Blk.drewN (h : Blk w g t cs) (n : Nat) : Blk (w.drewN n) g t cs := h
theorem Blk.alloc (h : Blk w g t cs) (o : Obj) : Blk (w.alloc o) g t cs := (Below.heap_alloc w o g h.lt).trans h
theorem Blk.set_ (h : Blk w g t cs) (i : Nat) (u : Value) : Blk (w.setCell ⟨g, i, none⟩ u) g t (cs.setIfInBounds i u) := by
  unfold Blk at h ⊢
  simp [World.setCell, Array.getElem?_modify, h]
theorem Blk.far (h : Blk w g t cs) {p : Addr} (hp : g ≠ p.block) (u : Value) : Blk (w.setCell p u) g t cs := (Below.heap_setCell w p u g hp).trans h
theorem Blk.below {B : Nat} (h : Blk w g t cs) (hb : Below B w w') (hg : g < B) : Blk w' g t cs := (hb.block g hg).trans h
theorem Blk.same {c c' : Array Value} {t' : TypeId} (h : Blk w g t c) (h' : Blk w g t' c') : c = c' ∧ t = t' := by
  unfold Blk at h h'
  rw [h] at h'
  injection h' with h'
  injection h' with a b
  exact ⟨a, b⟩
end

/-- A byte as a cell. -/
def bval (x : UInt8) : Value := .int .u8 (x.toNat : Int)

/-- The slice at A reads as the bytes bs. -/
def Bts (w : World) (A : Option Addr) (bs : List UInt8) : Prop := 0 < bs.length → ∃ ad, A = some ad ∧ ∀ j u, (bs.map bval)[j]? = some u → w.cell? (ad.add j) = some u

theorem block_of_add (a : Addr) (n : Nat) : (a.add n).block = a.block := by unfold Addr.add; split <;> rfl

theorem Bts.keep {w w' : World} {A : Option Addr} {bs : List UInt8} (h : Bts w A bs) (hk : ∀ ad, A = some ad → ad.block < w.heap.size → w'.heap[ad.block]? = w.heap[ad.block]?) : Bts w' A bs := fun hp => by
  obtain ⟨ad, rfl, hc⟩ := h hp
  have h0 : (bs.map bval)[0]? = some (bval (bs[0]'hp)) := by simp [List.getElem?_eq_getElem hp]
  have hl := block_lt_of_cell (hc 0 _ h0)
  rw [block_of_add] at hl
  exact ⟨ad, rfl, fun j u hj => (World.cell?_of_block (by rw [block_of_add]; exact hk ad rfl hl)).trans (hc j u hj)⟩

theorem Bts.below {B : Nat} {w w' : World} {A : Option Addr} {bs : List UInt8} (h : Bts w A bs) (hb : Below B w w') (hB : ∀ ad, A = some ad → 0 < bs.length → ad.block < B) : Bts w' A bs := fun hp => by
  obtain ⟨ad, rfl, hc⟩ := h hp
  exact ⟨ad, rfl, fun j u hj => (World.cell?_of_block (by rw [block_of_add]; exact hb.block _ (hB ad rfl hp))).trans (hc j u hj)⟩

theorem Bts.below' {w w' : World} {A : Option Addr} {bs : List UInt8} (h : Bts w A bs) (hb : Below w.heap.size w w') : Bts w' A bs := h.keep fun _ _ hl => hb.block _ hl

theorem bval_one (bs : List UInt8) : ∀ v ∈ bs.map bval, v.oneCell' = true := by
  intro v hv
  obtain ⟨x, _, rfl⟩ := List.mem_map.1 hv
  rfl

theorem splice_all {α : Type} (L cs : List α) (h : L.length = cs.length) : splice L 0 cs = cs := by
  unfold splice
  rw [List.take_zero, List.nil_append, Nat.zero_add, ← h, List.drop_length, List.append_nil]

end Go.Proofs.Ytgepnglmhalomaa

/-
  Own text. The walks over the program's net: copied, has, Len, New, Send.
-/
import Derived.Test.YtgepnglmhalomaaLaws
namespace Go.Proofs.Ytgepnglmhalomaa
open Go.RowKit

set_option maxHeartbeats 400000 in
theorem copied_any (f t : Int) (A : Option Addr) (n c : Nat) (bs : List UInt8) (w : World) (hb : Bts w A bs) (hl : bs.length = n) (hn : n ≤ 140737488355328) :
    Calls Try.prog 23 #[.agg #[.int .i64 f, .int .i64 t, .slice A n c]] w fun e w' => ∃ g, e = .returned (.agg #[.int .i64 f, .int .i64 t, .slice (some ⟨g, 0, none⟩) n n]) ∧ Blk w' g 5 (bs.map bval).toArray ∧ w.heap.size ≤ g ∧ Below w.heap.size w w' := by
  have HL := Lib.hid hl
  clear hl
  have hmk := run_make_bytes n hn
  go_enter Try.func23, Try.ntmps23
  go_wp2_with (refine wpList_copy_splice rfl (.tmp 8) (.tmp 10) 30 30 rfl 5 Try.underlying30 size5 (some ⟨w.heap.size + 1 + 1, 0, none⟩) A n n n c rfl rfl (w.heap.size + 1 + 1) 0 (List.replicate n (.int .u8 0)) 5 ?cg (bs.map bval) ?cn ?cpos ?cfit (bval_one bs) (w.heap.size + 1 + 1) _ (Below.refl _ _) (Nat.le_refl _) ?_)
  case cg =>
    have h := heap_alloc_new ((w.alloc (.cells #[.int .i64 f, .int .i64 t, .slice A n c] 32)).alloc (.cells #[.int .i64 0, .int .i64 0, .slice none 0 0] 32)) (.cells (Array.replicate n (.int .u8 0)) 5)
    simp only [World.size_alloc] at h
    rw [h, List.toArray_replicate]
  case cn => simp [HL.out]
  case cpos => 
    intro hp
    obtain ⟨ad, h1, h2⟩ := hb hp
    refine ⟨ad, h1, fun j a hj => ?_⟩
    have h3 := h2 j (bval a) (by simp [hj])
    have hlt := block_lt_of_cell h3
    rw [World.cell?_alloc_lt _ _ _ (by simp; omega), World.cell?_alloc_lt _ _ _ (by simp; omega), World.cell?_alloc_lt _ _ _ hlt]
    exact h3
  case cfit => simp [HL.out]
  intro w1 hb1 hw1
  have hB1 : Blk w1 (w.heap.size + 1 + 1) 5 (bs.map bval).toArray := by
    have h := hb1.out
    rw [splice_all _ _ (by simp [HL.out])] at h
    exact h
  have hP : Blk w1 w.heap.size 32 #[.int .i64 f, .int .i64 t, .slice A n c] := (((Blk.new w 32 _).alloc _).alloc _).below hw1 (by omega)
  have hR : Blk w1 (w.heap.size + 1) 32 #[.int .i64 0, .int .i64 0, .slice none 0 0] := by
    have := (Blk.new (w.alloc (.cells #[.int .i64 f, .int .i64 t, .slice A n c] 32)) 32 #[.int .i64 0, .int .i64 0, .slice none 0 0]).alloc (.cells (Array.replicate n (Value.int IntKind.u8 0)) 5)
    simp only [World.size_alloc] at this
    exact this.below hw1 (by omega)
  have hW : Below w.heap.size w w1 := ((((Below.refl _ w).alloc (Nat.le_refl _) _).alloc (by simp) _).alloc (by simp; omega) _).trans (hw1.mono (by omega))
  have p0 := hP.cell 0
  have p1 := hP.cell 1
  have p2 := hP.cell 2
  have r0 := hR.cell 0
  have r1 := hR.cell 1
  have r2 := hR.cell 2
  have pf := hP.frozen
  have rf := hR.frozen
  simp at p0 p1 p2 r0 r1 r2
  clear hb1 hw1 hmk
  generalize hG : w.heap.size + 1 + 1 = G at *
  have HG := Lib.hid hG
  clear hG
  go_wp2
  refine bodyPost_ret (v := .agg #[.int .i64 f, .int .i64 t, .slice (some ⟨G, 0, none⟩) n n]) (by simp [results, Try.results23, go_sem, r0, r1, r2]) rfl ⟨G, rfl, ?_, ?_, ?_⟩
  · have hg : G ≠ w.heap.size := by have := HG.out; omega
    have hg1 : G ≠ w.heap.size + 1 := by have := HG.out; omega
    exact (((hB1.far hg _).far hg1 _).far hg1 _).far hg1 _
  · have := HG.out; omega
  · exact (((hW.setCell (Nat.le_refl _) _).setCell (by simp) _).setCell (by simp) _).setCell (by simp) _
section
variable {w : World} {bp : Nat} {es : List Ent} {G : Option Nat} {c : Nat}
def SendPost (w : World) (T bp : Nat) (es : List Ent) (G : Option Nat) (x : Pk) (e : Ending) (w' : World) : Prop :=
  e = .returned (.tuple #[]) ∧ ∃ G' c' A cc, NetAt w' T bp (es ++ [⟨x.f, x.t, x.b, A, cc⟩]) G' c' ∧ (∀ g, A = some g → w.heap.size ≤ g) ∧ (∀ g, G' = some g → G = some g ∨ w.heap.size ≤ g) ∧ Kept (fp bp G es) w w'
set_option maxHeartbeats 1000000 in
theorem send_any 
    (h : NetAt w 53 bp es G c) (hn : es.length ≤ 1000000) (x : Pk) (A : Option Addr) (n cc : Nat) (hb : Bts w A x.b) (hl : x.b.length = n) (hN : n ≤ 140737488355328) :
    Calls Try.prog 10 #[.pointer (some ⟨bp, 0, none⟩), .agg #[.int .i64 x.f, .int .i64 x.t, .slice A n cc]] w (SendPost w 53 bp es G x) := by
  have HH := Lib.hid h
  have HL := Lib.hid hl
  have HB := Lib.hid hb
  have HC := Lib.hid @copied_any
  have hlt := h.hd.lt
  obtain ⟨i32, hi, hz, hs, hby⟩ := info_parts info32
  have hd0 := h.hd
  obtain ⟨W, hW⟩ : ∃ W, W = w.alloc (Obj.cells #[Value.int IntKind.i64 x.f, Value.int IntKind.i64 x.t, Value.slice A n cc] 32) := ⟨_, rfl⟩
  have hbG : bp ∉ G.toList := fun hm => by
    have := h.nodup
    simp only [fp, List.nodup_cons, List.mem_append, not_or] at this
    exact this.1.1 hm
  have hGlt : ∀ k ∈ G.toList, k < w.heap.size := fun k hk => h.lt k (mem_fp.2 (.inr (.inl (by simpa using hk))))
  have hS : ∀ w' : World, Kept G.toList W w' → Blk w' bp 53 #[sl G es.length c] ∧ Blk w' w.heap.size 32 #[Value.int IntKind.i64 x.f, Value.int IntKind.i64 x.t, Value.slice A n cc] := by
    intro w' hw'
    subst hW
    exact ⟨(hd0.alloc _).kept hw' hbG, (Blk.new w 32 _).kept hw' (fun hm => by have := hGlt _ hm; omega)⟩
  have hC : ∀ w' : World, Kept G.toList W w' → w'.cell? ⟨bp, 0, none⟩ = some (.slice (G.map fun g => ⟨g, 0, none⟩) es.length c) ∧
      w'.cell? ⟨w.heap.size, 0, none⟩ = some (.int .i64 x.f) ∧ w'.cell? ⟨w.heap.size, 1, none⟩ = some (.int .i64 x.t) ∧ w'.cell? ⟨w.heap.size, 2, none⟩ = some (.slice A n cc) := fun w' hw' =>
    ⟨(hS w' hw').1.cell 0, (hS w' hw').2.cell 0, (hS w' hw').2.cell 1, (hS w' hw').2.cell 2⟩
  have HS := Lib.hid hS
  have HSC := Lib.hid hC
  have HK1 := Lib.hid (Kept.refl G.toList W).drew
  have HW := Lib.hid hW
  clear h hl hb hS hC hd0 hW hbG hGlt
  go_enter Try.func10, Try.ntmps10
  go_wp2_with fail
  rw [← HW.out]
  obtain ⟨q0, q1, q2, q3⟩ := HSC.out _ HK1.out
  go_region_law
    (first
      | (go_simp; go_at_call 23; refine (HC.out _ _ _ _ _ x.b _ ?_ HL.out hN).mono ?_; (have := HW.out; subst this; exact HB.out.below' ((Below.refl _ _).alloc (Nat.le_refl _) _).drew); rintro e w1 ⟨g, rfl, hb1, hg1, hw1⟩; have HB1 := Lib.hid hb1; have HG1 := Lib.hid hg1; have HKE := Lib.hid ((Kept.refl [] W).drew.trans (Kept.of_below hw1 [])); have HK2 := Lib.hid (HK1.out.trans' (F' := []) (Kept.of_below hw1 []) (by simp)); obtain ⟨q0', q1', q2', q3'⟩ := HSC.out _ HK2.out; obtain ⟨r0', r1', r2', r3'⟩ := HSC.out _ (HK2.out.alloc (.cells #[.int .i64 x.f, .int .i64 x.t, .slice (some ⟨g, 0, none⟩) n n] 32)); clear hb1 hw1 hg1)
      | (refine step_append_row rfl (.tmp 8) (.tmp 11) 27 rfl 32 i32 _ 3 40 Try.underlying27 hi hz hs hby rfl (by omega) G c es.length (rows es) rfl
            ?r1 (some ⟨w1.heap.size, 0, none⟩) 1 1 [.int .i64 x.f, .int .i64 x.t, .slice (some ⟨g, 0, none⟩) n n] rfl rfl (fun _ => ⟨_, rfl, ?r2⟩) (by simp [Value.oneCell']) (by omega) (by omega) ?_
         case r1 =>
           have h1 := HH.out.row
           have hWW := HW.out
           subst hWW
           exact h1.kept ((((Kept.refl [] w).alloc _).trans HKE.out).alloc _) (fun _ _ => by simp)
         case r2 => exact news_blk (Blk.new w1 32 #[.int .i64 x.f, .int .i64 x.t, .slice (some ⟨g, 0, none⟩) n n])
         intro G' c' w2 HR HK HG
         have HK3 := Lib.hid ((HK2.out.alloc (.cells #[.int .i64 x.f, .int .i64 x.t, .slice (some ⟨g, 0, none⟩) n n] 32)).trans HK.out)
         have hfr := (HS.out _ HK3.out).1.frozen 0
         have q0'' := (HSC.out _ HK3.out).1))
  all_goals
    go_end0
    have hWW := HW.out
    have hg1 := HG1.out
    have hk := HK.out
    have hk1 := (Kept.refl G.toList w).alloc (.cells #[Value.int IntKind.i64 x.f, Value.int IntKind.i64 x.t, Value.slice A n cc] 32)
    have hk3 := HK3.out
    have hb1 := HB1.out
    subst hWW
    simp only [World.size_drew, World.size_alloc] at hg1
    refine ⟨rfl, G', c', some g, n, HH.out.sent ⟨x.f, x.t, x.b, some g, n⟩ (hk1.trans hk3) ?_ ⟨?_, ?_, ?_⟩ ?_ ?_, ?_, ?_, ?_⟩
    · rw [show Ent.row ⟨x.f, x.t, x.b, some g, n⟩ = [.int .i64 x.f, .int .i64 x.t, .slice (some ⟨g, 0, none⟩) x.b.length n] from rfl, HL.out]
      exact HR.out
    · intro g' hg'
      injection hg' with hg'
      subst hg'
      refine ⟨[], ?_⟩
      rw [List.append_nil]
      refine (hb1.alloc _).kept hk (fun hm => ?_)
      have := HH.out.lt g (mem_fp.2 (.inr (.inl (by simpa using hm))))
      omega
    · intro h
      cases h
    · exact HL.out.symm ▸ hN
    · intro g' hg'
      injection hg' with hg'
      omega
    · intro g' hg'
      rcases HG.out with h | h
      · exact .inl (h ▸ hg')
      · refine .inr ?_
        rw [h] at hg'
        injection hg' with hg'
        have h2 := hb1.lt
        have h3 := HKE.out.size
        simp only [World.size_alloc] at h3 hg'
        exact ⟨by omega, fun h4 => by injection h4; omega⟩
    · intro g' hg'
      injection hg' with hg'
      omega
    · intro g' hg'
      rcases HG.out with h | h
      · exact .inl (h ▸ hg')
      · refine .inr ?_
        rw [h] at hg'
        injection hg' with hg'
        have h3 := HKE.out.size
        simp only [World.size_alloc] at h3 hg'
        omega
    · refine (Kept.trans' ((Kept.refl (fp bp G es) w).alloc _) hk3 (fun i hi => .inl (mem_fp.2 (.inr (.inl (by simpa using hi)))))).setCell (.inl (mem_fp.2 (.inl rfl))) _
end
end Go.Proofs.Ytgepnglmhalomaa

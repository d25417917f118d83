/-
  Own text. The walk over the reference's Send.
-/
import Derived.Test.YtgepnglmhalomaaWalkA
namespace Go.Proofs.Ytgepnglmhalomaa
open Go.RowKit
section
variable {w : World} {bp : Nat} {es : List Ent} {G : Option Nat} {c : Nat}
set_option maxHeartbeats 1000000 in
theorem rsend_any (h : NetAt w 29 bp es G c) (hn : es.length ≤ 1000000) (x : Pk) (A : Option Addr) (n cc : Nat) (hb : Bts w A x.b) (hl : x.b.length = n) (hN : n ≤ 140737488355328) :
    Calls Try.prog 11 #[.pointer (some ⟨bp, 0, none⟩), .agg #[.int .i64 x.f, .int .i64 x.t, .slice A n cc]] w (SendPost w 29 bp es G x) := by
  have HH := Lib.hid h
  have HL := Lib.hid hl
  have HB := Lib.hid hb
  have hlt := h.hd.lt
  obtain ⟨i32, hi, hz, hs, hby⟩ := info_parts info32
  obtain ⟨i5, hi5, hz5, hs5, hb5⟩ := info_parts info5
  have hnil : Row (w.alloc (Obj.cells #[Value.int IntKind.i64 x.f, Value.int IntKind.i64 x.t, Value.slice A n cc] 32)) 5 1 none 0 0 [] := ⟨rfl, Nat.le_refl _, fun _ => rfl, fun g hg => by cases hg⟩
  have HNIL := Lib.hid hnil
  clear hnil h hl hb
  go_enter Try.func11, Try.ntmps11
  go_wp2_with (first
      | (at_builtin
         go_must (refine wpList_append_row rfl (.const (.slice none 0 0)) (.tmp 5) 30 rfl 5 i5 _ 1 1 Try.underlying30 hi5 hz5 hs5 hb5 rfl (by omega) none 0 0 [] rfl HNIL.out A n cc (x.b.map bval) rfl ?r0 ?r1 (bval_one _) (by omega) (by omega) ?_)
         case r0 => rw [List.length_map, HL.out, Nat.mul_one]
         case r1 => exact fun hp => HB.out.below' ((Below.refl _ _).alloc (Nat.le_refl _) _) (by rw [HL.out]; exact hp)
         intro G1 c1 w1 HR1 HK1 HG1
         have HBX := Lib.hid ((Blk.new w 32 #[Value.int IntKind.i64 x.f, Value.int IntKind.i64 x.t, Value.slice A n cc]).kept HK1.out (by simp))
         have p0 := HBX.out.cell 0
         have p1 := HBX.out.cell 1
         have p2 := HBX.out.cell 2
         have pf := HBX.out.frozen
         simp at p0 p1 p2))
  generalize hW : w1.setCell _ _ = W
  have HW := Lib.hid hW
  clear hW p0 p1 p2 pf
  have hk1 : Kept [w.heap.size] (w.alloc (Obj.cells #[Value.int IntKind.i64 x.f, Value.int IntKind.i64 x.t, Value.slice A n cc] 32)) w1 := HK1.out.mono (by simp)
  have hkW : Kept [w.heap.size] (w.alloc (Obj.cells #[Value.int IntKind.i64 x.f, Value.int IntKind.i64 x.t, Value.slice A n cc] 32)) W := by
    rw [← HW.out]
    exact hk1.setCell (.inl (by simp)) _
  have hk0 : Kept [] w W := ((Kept.refl [] w).alloc _).trans' hkW (by simp)
  have hbox : Blk W w.heap.size 32 #[.int .i64 x.f, .int .i64 x.t, .slice (G1.map fun g => ⟨g, 0, none⟩) n c1] := by
    rw [← HW.out]
    simpa using HBX.out.set_ 2 (.slice (G1.map fun g => ⟨g, 0, none⟩) n c1)
  have hbpb : Blk W bp 29 #[sl G es.length c] := HH.out.hd.kept hk0 (by simp)
  have hbG : bp ∉ G.toList := fun hm => HH.out.nodup'.1 (by simpa using hm)
  have hbytes : Row W 5 1 G1 c1 n (x.b.map bval) := by
    have h := HR1.out
    rw [Nat.zero_add, List.nil_append] at h
    rw [← HW.out]
    refine h.keep fun g hg => Below.heap_setCell _ _ _ _ (fun hgb => ?_)
    simp only at hgb
    subst hgb
    rcases HG1.out with h1 | h1
    · rw [h1] at hg
      cases hg
    · rw [h1] at hg
      simp at hg
  have HC := Lib.hid (fun (w' : World) (hw' : w'.heap[bp]? = W.heap[bp]? ∧ w'.heap[w.heap.size]? = W.heap[w.heap.size]?) => 
    (show w'.cell? ⟨bp, 0, none⟩ = some (.slice (G.map fun g => ⟨g, 0, none⟩) es.length c) ∧
      w'.cell? ⟨w.heap.size, 0, none⟩ = some (.int .i64 x.f) ∧ w'.cell? ⟨w.heap.size, 1, none⟩ = some (.int .i64 x.t) ∧ w'.cell? ⟨w.heap.size, 2, none⟩ = some (.slice (G1.map fun g => ⟨g, 0, none⟩) n c1) from
      ⟨Blk.cell (hw'.1.trans hbpb) 0, Blk.cell (hw'.2.trans hbox) 0, Blk.cell (hw'.2.trans hbox) 1, Blk.cell (hw'.2.trans hbox) 2⟩))
  have HBB := Lib.hid hbpb
  have HKW := Lib.hid hk0
  have HBY := Lib.hid hbytes
  have HbG := Lib.hid hbG
  have hlB := hbox.lt
  have hlP := hbpb.lt
  have HRW := Lib.hid (HH.out.row.kept hk0 (fun _ _ => by simp))
  clear hk1 hkW hk0 hbox hbpb hbG hbytes
  obtain ⟨q0, q1, q2, q3⟩ := HC.out W ⟨rfl, rfl⟩
  have hlPI : bp ≠ W.heap.size := by omega
  go_region_law
    (first
      | (refine step_append_row rfl (.tmp 12) (.tmp 14) 27 rfl 32 i32 _ 3 40 Try.underlying27 hi hz hs hby rfl (by omega) G c es.length (rows es) rfl
            ?r1 (some ⟨W.heap.size, 0, none⟩) 1 1 [.int .i64 x.f, .int .i64 x.t, .slice (G1.map fun g => ⟨g, 0, none⟩) n c1] rfl rfl (fun _ => ⟨_, rfl, ?r2⟩) (by simp [Value.oneCell']) (by omega) (by omega) ?_
         case r1 => exact HRW.out.kept (((Kept.refl [] W).drew).alloc _) (fun _ _ => by simp)
         case r2 => exact news_blk (Blk.new W.drew 32 #[.int .i64 x.f, .int .i64 x.t, .slice (G1.map fun g => ⟨g, 0, none⟩) n c1])
         intro G' c' w2 HR HK HG
         have hfr := ((HBB.out.drew.alloc (.cells #[.int .i64 x.f, .int .i64 x.t, .slice (G1.map fun g => ⟨g, 0, none⟩) n c1] 32)).kept HK.out HbG.out).frozen 0
         have q0'' := ((HBB.out.drew.alloc (.cells #[.int .i64 x.f, .int .i64 x.t, .slice (G1.map fun g => ⟨g, 0, none⟩) n c1] 32)).kept HK.out HbG.out).cell 0
         simp at q0''))
  all_goals
    go_end0
    have hk := HK.out
    have hk3 : Kept G.toList w w2 := ((((HKW.out.mono (by simp)).drew).alloc _).trans hk)
    have hbyt := HBY.out
    have hszW : w.heap.size + 1 ≤ W.heap.size := by omega
    have hGG : ∀ g, G1 = some g → w.heap.size ≤ g ∧ g < W.heap.size := fun g hg => by
      subst hg
      refine ⟨?_, hbyt.lt⟩
      rcases HG1.out with h | h
      · cases h
      · injection h with h
        simp only [World.size_alloc] at h
        omega
    have hbytk : Row w2 5 1 G1 c1 n (x.b.map bval) := hbyt.kept ((((Kept.refl G.toList W).drew).alloc _).trans hk) (fun g hg hm => by
      have h1 := HH.out.lt g (mem_fp.2 (.inr (.inl (by simpa using hm))))
      have h2 := hGG g hg
      omega)
    obtain ⟨hb1, hb2⟩ := row_bytes (by rw [HL.out]; exact hbytk)
    refine ⟨rfl, G', c', G1, c1, HH.out.sent ⟨x.f, x.t, x.b, G1, c1⟩ hk3 ?_ ⟨hb1, hb2, HL.out.symm ▸ hN⟩ (fun g hg => (hGG g hg).1) ?_, (fun g hg => (hGG g hg).1), ?_, ?_⟩
    · rw [show Ent.row ⟨x.f, x.t, x.b, G1, c1⟩ = [.int .i64 x.f, .int .i64 x.t, .slice (G1.map fun g => ⟨g, 0, none⟩) x.b.length c1] from rfl, HL.out]
      exact HR.out
    · intro g' hg'
      rcases HG.out with h | h
      · exact .inl (h ▸ hg')
      · refine .inr ?_
        rw [h] at hg'
        injection hg' with hg'
        simp only [World.size_alloc, World.size_drew] at hg'
        exact ⟨by omega, fun h4 => by have := hGG g' h4; omega⟩
    · intro g' hg'
      rcases HG.out with h | h
      · exact .inl (h ▸ hg')
      · refine .inr ?_
        rw [h] at hg'
        injection hg' with hg'
        simp only [World.size_alloc, World.size_drew] at hg'
        omega
    · refine (hk3.mono (fun i hi => .inl (mem_fp.2 (.inr (.inl (by simpa using hi)))))).setCell (p := ⟨bp, 0, none⟩) (.inl (mem_fp.2 (.inl rfl))) _
end
end Go.Proofs.Ytgepnglmhalomaa

/-
  Own text. The walks over slices.Delete and Take.
-/
import Derived.Test.YtgepnglmhalomaaLawsB
namespace Go.Proofs.Ytgepnglmhalomaa
open Go.RowKit
theorem zero32 : ∀ w, (zeroValue 32).run Try.prog w = .ok (.agg #[.int .i64 0, .int .i64 0, .slice none 0 0]) w := fun w => by kernel_rfl
section
variable {w : World} {bp : Nat} {es : List Ent} {G : Option Nat} {c : Nat}
set_option maxHeartbeats 400000 in
theorem delete_mid {g n : Nat} {xs : List Value} (h : Row w 32 3 (some g) c n xs) (hone : ∀ u ∈ xs, u.oneCell' = true) (hn : n ≤ 1000000) (i : Nat) (hi : i < n) (hc : ¬ c = i + 1) :
    Calls Try.prog 24 #[.slice (some ⟨g, 0, none⟩) n c, .int .i64 i, .int .i64 ((i : Int) + 1)] w fun e w' => e = .returned (.slice (some ⟨g, 0, none⟩) (n - 1) c) ∧ Row w' 32 3 (some g) c (n - 1) (xs.take (i * 3) ++ xs.drop ((i + 1) * 3)) ∧ Kept [g] w w' := by
  have HH := Lib.hid h
  have hnc := h.2.1
  have i0 : (0 : Int) ≤ (i : Int) := by omega
  have i1 : (i : Int) < (n : Int) := by omega
  have i2 : i ≤ c := by omega
  have i3 : i + 1 ≤ c := by omega
  have hne : i ≠ i + 1 := by omega
  have i4 : (0 : Int) ≤ (i : Int) + 1 := by omega
  have i5 : (i : Int) + 1 ≤ (n : Int) := by omega
  have HL := Lib.hid h.1
  have HO := Lib.hid hone
  have hrow0 : Row w 32 3 (some g) c i (xs.take (i * 3)) := by
    refine ⟨by rw [List.length_take, h.1]; omega, by omega, (fun h => by cases h), fun g' hg' => ?_⟩
    obtain ⟨cur, hb, hs, ht⟩ := h.2.2.2 g' hg'
    exact ⟨cur, hb, hs, by rw [← ht, List.take_take, Nat.min_eq_left (by omega)]⟩
  have HR0 := Lib.hid hrow0
  clear hrow0 hone
  obtain ⟨i32, hi32, hz, hs, hby⟩ := info_parts info32
  obtain ⟨N, hN⟩ : ∃ N, N = n - 1 := ⟨_, rfl⟩
  have HN := Lib.hid hN
  have cN : ¬ c = N := by omega
  have N0 : (0 : Int) ≤ (N : Int) := by omega
  have N1 : (N : Int) ≤ (n : Int) := by omega
  have N2 : (N : Int) ≤ (c : Int) := by omega
  have N3 : (n : Int) ≤ (c : Int) := by omega
  clear h hN
  go_enter Try.func24, Try.ntmps24
  go_wp2
  go_region_law (first
      | (refine step_append_fit ?hgd (.tmp 22) (.tmp 25) 27 ?ho 32 i32 3 Try.underlying27 hi32 hs g c i (xs.take (i * 3)) ?hs ?rr ⟨g, (i + 1) * 3, none⟩ (n - (i + 1)) (c - (i + 1)) N (xs.drop ((i + 1) * 3)) ?hx ?r0 ?r1 ?r2 ?b0 ?b1 ?_
         case hgd => rfl
         case ho => rfl
         case hs => first | (go_simp; done) | (go_simp; rfl)
         case hx => first | (go_simp; done) | (go_simp; rfl)
         case rr => exact HR0.out.keep fun _ _ => rfl
         case r0 => rw [List.length_drop, HL.out]; omega
         case r1 =>
           intro j u hj
           have hlt : (i + 1) * 3 + j < n * 3 := by
             have := (List.getElem?_eq_some_iff.1 hj).1
             rw [List.length_drop, HL.out] at this
             omega
           rw [Addr.add_lit]
           exact (HH.out.cell _ hlt).trans (by rw [← hj, List.getElem?_drop])
         case r2 => exact fun u hu => HO.out u (List.mem_of_mem_drop hu)
         case b0 => have := HN.out; omega
         case b1 => omega
         intro w2 HR HK))
  go_wp2_with (refine wpList_clear_row rfl (.tmp 31) 27 ?ho 32 _ 3 Try.underlying27 zero32 rfl (by simp [Value.cells, Value.oneCell']) g c N (n - N) (c - N) ?hx ?hm _ HR.out ?hf ?_
               case ho => rfl
               case hx => first | (go_simp; done) | (go_simp; rfl)
               case hm => have := HN.out; omega
               case hf => omega
               intro w3 HR3 HK3)
  go_ret
  rw [← HN.out]
  exact ⟨rfl, HR3.out, ((Kept.refl [g] w).drew.trans HK.out).trans HK3.out⟩
set_option maxHeartbeats 400000 in
theorem delete_last {g i : Nat} {xs : List Value} (h : Row w 32 3 (some g) (i + 1) (i + 1) xs) (hn : i ≤ 1000000) :
    Calls Try.prog 24 #[.slice (some ⟨g, 0, none⟩) (i + 1) (i + 1), .int .i64 i, .int .i64 ((i : Int) + 1)] w fun e w' => e = .returned (.slice (some ⟨g, 0, none⟩) i (i + 1)) ∧ Row w' 32 3 (some g) (i + 1) i (xs.take (i * 3) ++ xs.drop ((i + 1) * 3)) ∧ Kept [g] w w' := by
  have HH := Lib.hid h
  have i0 : (0 : Int) ≤ (i : Int) := by omega
  have i1 : (i : Int) < ((i + 1 : Nat) : Int) := by omega
  have hne : i ≠ i + 1 := by omega
  have hne' : ¬ i + 1 = i := by omega
  have i6 : (i : Int) ≤ (i : Int) + 1 := by omega
  have HL := Lib.hid h.1
  have i4 : (0 : Int) ≤ (i : Int) + 1 := by omega
  have hrow0 : Row w 32 3 (some g) (i + 1) i (xs.take (i * 3)) := by
    refine ⟨by rw [List.length_take, h.1]; omega, by omega, (fun h => by cases h), fun g' hg' => ?_⟩
    obtain ⟨cur, hb, hs, ht⟩ := h.2.2.2 g' hg'
    exact ⟨cur, hb, hs, by rw [← ht, List.take_take, Nat.min_eq_left (by omega)]⟩
  have HR0 := Lib.hid hrow0
  clear hrow0
  obtain ⟨i32, hi32, hz, hs, hby⟩ := info_parts info32
  clear h
  go_enter Try.func24, Try.ntmps24
  go_wp2
  go_region_law (first
      | (refine step_append_fit ?hgd (.tmp 22) (.tmp 25) 27 ?ho 32 i32 3 Try.underlying27 hi32 hs g (i + 1) i (xs.take (i * 3)) ?hs ?rr ⟨g, 0, none⟩ 0 0 i [] ?hx ?r0 ?r1 ?r2 ?b0 ?b1 ?_
         case hgd => rfl
         case ho => rfl
         case hs => first | (go_simp; done) | (go_simp; rfl)
         case hx => first | (go_simp; done) | (go_simp; rfl)
         case rr => exact HR0.out.keep fun _ _ => rfl
         case r0 => rfl
         case r1 => exact fun j u hj => by simp at hj
         case r2 => exact fun u hu => by cases hu
         case b0 => rfl
         case b1 => omega
         intro w2 HR HK))
  go_wp2_with (refine wpList_clear_row rfl (.tmp 31) 27 ?ho 32 _ 3 Try.underlying27 zero32 rfl (by simp [Value.cells, Value.oneCell']) g (i + 1) i 1 1 ?hx ?hm _ HR.out ?hf ?_
               case ho => rfl
               case hx => first | (go_simp; done) | (go_simp; rfl)
               case hm => omega
               case hf => omega
               intro w3 HR3 HK3)
  go_ret
  refine ⟨rfl, ?_, ((Kept.refl [g] w).drew.trans HK.out).trans HK3.out⟩
  rw [List.drop_eq_nil_of_le (by rw [HL.out]; omega)]
  exact HR3.out
theorem delete_any {g n : Nat} {xs : List Value} (h : Row w 32 3 (some g) c n xs) (hone : ∀ u ∈ xs, u.oneCell' = true) (hn : n ≤ 1000000) (i : Nat) (hi : i < n) :
    Calls Try.prog 24 #[.slice (some ⟨g, 0, none⟩) n c, .int .i64 i, .int .i64 ((i : Int) + 1)] w fun e w' => e = .returned (.slice (some ⟨g, 0, none⟩) (n - 1) c) ∧ Row w' 32 3 (some g) c (n - 1) (xs.take (i * 3) ++ xs.drop ((i + 1) * 3)) ∧ Kept [g] w w' := by
  by_cases hc : c = i + 1
  · have hnc := h.2.1
    obtain rfl : n = i + 1 := by omega
    subst hc
    exact delete_last h (by omega)
  · exact delete_mid h hone hn i hi hc

/-- Some of the parcels are left, in a row that is the old one or new. -/
theorem NetAt.rerowed {T : Nat} (h : NetAt w T bp es G c) {w2 : World} {es' : List Ent} {G' : Option Nat} {c' : Nat} (hm : ∀ e ∈ es', e ∈ es) (hnd : (es'.filterMap Ent.A).Nodup) (hr : Row w2 32 3 G' c' es'.length (rows es')) (hk : Kept G.toList w w2)
    (hG : ∀ k, G' = some k → G = some k ∨ w.heap.size ≤ k) : NetAt (w2.setCell ⟨bp, 0, none⟩ (sl G' es'.length c')) T bp es' G' c' := by
  obtain ⟨n1, n2, n3, n4⟩ := h.nodup'
  have hb : bp < w.heap.size := h.hd.lt
  have hbG : bp ∉ G.toList := fun hm => n1 (by simpa using hm)
  have hG1 : G' ≠ some bp := fun hg => by
    rcases hG bp hg with h1 | h1
    · exact n1 h1
    · omega
  refine ⟨?_, hr.keep fun g hg => Below.heap_setCell _ _ _ _ (by rintro rfl; exact hG1 hg), fun e he => ?_, nodup_fp hG1 (fun e he => n2 e (hm e he)) (fun e he g hg hg' => ?_) hnd⟩
  · have := (h.hd.kept hk hbG).set_ 0 (sl G' es'.length c')
    simpa using this
  · have he' := hm e he
    refine ((h.ents e he').keep (w' := w2) fun g hg => ?_).keep fun g hg => Below.heap_setCell _ _ _ _ (by rintro rfl; exact n2 e he' hg)
    exact hk.block g ((h.ents e he').lt hg) (fun hm' => n3 e he' g hg (by simpa using hm'))
  · have he' := hm e he
    rcases hG g hg' with h1 | h1
    · exact n3 e he' g hg h1
    · have := (h.ents e he').lt hg
      omega

theorem rows_erase (es : List Ent) (i : Nat) : (rows es).take (i * 3) ++ (rows es).drop ((i + 1) * 3) = rows (es.eraseIdx i) := by
  rw [take_rows, drop_rows, List.eraseIdx_eq_take_drop_succ, rows_append]
theorem nodup_erase (es : List Ent) (i : Nat) (h : (es.filterMap Ent.A).Nodup) : ((es.eraseIdx i).filterMap Ent.A).Nodup :=
  h.sublist ((List.eraseIdx_sublist es i).filterMap _)
theorem rows_one (es : List Ent) : ∀ u ∈ rows es, u.oneCell' = true := by
  intro u hu
  obtain ⟨e, _, he⟩ := List.mem_flatMap.1 hu
  simp only [Ent.row, List.mem_cons, List.not_mem_nil, or_false] at he
  rcases he with rfl | rfl | rfl <;> rfl
theorem length_erase (es : List Ent) (i : Nat) (hi : i < es.length) : (es.eraseIdx i).length = es.length - 1 := by
  rw [List.length_eraseIdx, if_pos hi]

/-- A parcel has been taken. -/
def TakePost (w : World) (T bp : Nat) (es : List Ent) (G : Option Nat) (i : Nat) (x : Pk) (e : Ending) (w' : World) : Prop :=
  ∃ A n c, e = .returned (.tuple #[.agg #[.int .i64 x.f, .int .i64 x.t, .slice A n c], .bool true]) ∧ n = x.b.length ∧ Bts w' A x.b ∧ (∀ ad, A = some ad → ad.block ∈ fp bp G es ∨ w.heap.size ≤ ad.block) ∧
    ∃ G' c', NetAt w' T bp (es.eraseIdx i) G' c' ∧ (∀ k, G' = some k → G = some k ∨ w.heap.size ≤ k) ∧ Kept (fp bp G es) w w'
set_option maxHeartbeats 400000 in
theorem take_yes (h : NetAt w 53 bp es G c) (hn : es.length ≤ 1000000) (i : Nat) (x : Ent) (hx : es[i]? = some x) :
    Calls Try.prog 12 #[.pointer (some ⟨bp, 0, none⟩), .int .i64 i] w (TakePost w 53 bp es G i x.pk) := by
  have hi : i < es.length := (List.getElem?_eq_some_iff.1 hx).1
  have h0 := h.len_cell
  obtain ⟨g, hg, c0, c1, c2⟩ := h.cells hx
  subst hg
  clear c0 c1 c2
  have i1 : (i : Int) < (es.length : Int) := by omega
  unfold sl at h0
  simp only [Option.map_some] at h0
  have HH := Lib.hid h
  have HX := Lib.hid hx
  have hb := h.hd.lt
  have hg := h.lt g (mem_fp.2 (.inr (.inl rfl)))
  clear h hx
  go_enter Try.func12, Try.ntmps12
  go_wp2_with (first
    | (go_at_call 21; refine (at_yes (HH.out.below ((Below.refl _ _).alloc (Nat.le_refl _) _)) i x HX.out).mono ?_; rintro e w1 ⟨g1, rfl, hb1, hg1, hw1⟩; have HB1 := Lib.hid hb1; have HG1 := Lib.hid hg1; have HW1 := Lib.hid hw1; have q0 := (hw1.cell (p := ⟨bp, 0, none⟩) (by simp; omega)).trans ((World.cell?_alloc_lt w _ _ hb).trans h0); have hs1 := hw1.size; simp at hs1; have hbs : bp < w1.heap.size := by omega
       have hws : w.heap.size < w1.heap.size := by omega
       clear hb1 hg1 hw1 hs1)
    | (go_at_call 24; refine (delete_any (HH.out.row.kept (((Kept.refl [] w).alloc _).trans ((Kept.of_below HW1.out []).alloc _)) (fun _ _ => by simp)) (rows_one es) hn i hi).mono ?_
       rintro e w2 ⟨rfl, hr, hk⟩
       have HR := Lib.hid hr
       have HK := Lib.hid hk
       have bb := (((HH.out.hd.alloc _).below HW1.out (by simp; omega)).alloc (.cells #[.int .i64 x.pk.f, .int .i64 x.pk.t, .slice (some ⟨g1, 0, none⟩) x.pk.b.length x.pk.b.length] 32)).kept hk (by have := HH.out.nodup'.1; simp; intro e; exact this (by rw [e]))
       have bp1 := (Blk.new w1 32 #[.int .i64 x.pk.f, .int .i64 x.pk.t, .slice (some ⟨g1, 0, none⟩) x.pk.b.length x.pk.b.length]).kept hk (by simp; omega)
       have br := (((Blk.new w 32 #[.int .i64 0, .int .i64 0, .slice none 0 0]).below HW1.out (by simp)).alloc (.cells #[.int .i64 x.pk.f, .int .i64 x.pk.t, .slice (some ⟨g1, 0, none⟩) x.pk.b.length x.pk.b.length] 32)).kept hk (by simp; omega)
       have b0 := bb.cell 0
       have b1 := bb.frozen 0
       have p0 := bp1.cell 0
       have p1 := bp1.cell 1
       have p2 := bp1.cell 2
       have r0 := br.cell 0
       have r1 := br.cell 1
       have r2 := br.cell 2
       have rf := br.frozen
       unfold sl at b0
       simp at b0 p0 p1 p2 r0 r1 r2
       have n1 : bp ≠ w1.heap.size := by omega
       have n2 : bp ≠ w.heap.size := by omega
       have n3 : w1.heap.size ≠ w.heap.size := by omega
       clear hr hk bb bp1 br hws hbs hb hg h0 q0))
  have hk0 : Kept [g] w w2 := (((Kept.refl [g] w).alloc _).trans ((Kept.of_below HW1.out [g]).alloc _)).trans HK.out
  have hg1 := HG1.out
  simp only [World.size_alloc] at hg1
  have hnet := HH.out.rerowed (w2 := w2) (es' := es.eraseIdx i) (G' := some g) (c' := c) (fun e he => List.mem_of_mem_eraseIdx he) (nodup_erase es i HH.out.nodup'.2.2.2)
    (by rw [length_erase es i hi, ← rows_erase]; exact HR.out) hk0 (fun k hk => .inl hk)
  rw [length_erase es i hi] at hnet
  have hlt := HH.out.lt
  refine bodyPost_ret (v := .tuple #[.agg #[.int .i64 x.pk.f, .int .i64 x.pk.t, .slice (some ⟨g1, 0, none⟩) x.pk.b.length x.pk.b.length], .bool true]) (by simp [results, Try.results12, go_sem, r0, r1, r2]) rfl ⟨_, _, _, rfl, rfl, ?_, fun ad had => ?_, some g, c, ?_, fun k hk => .inl hk, ?_⟩
  · have hgg : g1 ≠ g := by have := hlt g (mem_fp.2 (.inr (.inl rfl))); omega
    have hgb : g1 ≠ bp := by have := hlt bp (mem_fp.2 (.inl rfl)); omega
    have hgw : g1 ≠ w.heap.size := by omega
    exact (((((HB1.out.alloc _).kept HK.out (by simpa using hgg)).far (by exact hgb) _).far (by exact hgw) _).far (by exact hgw) _).far (by exact hgw) _ |>.bts
  · injection had with had
    subst had
    exact .inr (by simp only; omega)
  · refine hnet.keep fun k hk => ?_
    have hkl : k < w.heap.size := hlt k (by
      rcases mem_fp.1 hk with h | h | ⟨e, he, hA⟩
      · exact mem_fp.2 (.inl h)
      · exact mem_fp.2 (.inr (.inl h))
      · exact mem_fp.2 (.inr (.inr ⟨e, List.mem_of_mem_eraseIdx he, hA⟩)))
    rw [Below.heap_setCell _ _ _ _ (by simp only; omega), Below.heap_setCell _ _ _ _ (by simp only; omega), Below.heap_setCell _ _ _ _ (by simp only; omega)]
    rfl
  · refine ((((hk0.mono (F' := fp bp (some g) es) (fun k hk => .inl (mem_fp.2 (.inr (.inl (by simpa [eq_comm] using hk)))))).setCell (p := ⟨bp, 0, none⟩) (.inl (mem_fp.2 (.inl rfl))) _).setCell ?_ _).setCell ?_ _).setCell ?_ _ <;> exact .inr (Nat.le_refl _)
set_option maxHeartbeats 400000 in
theorem take_no (h : NetAt w 53 bp es G c) (i : Int) (hi : i < 0 ∨ (es.length : Int) ≤ i) :
    Calls Try.prog 12 #[.pointer (some ⟨bp, 0, none⟩), .int .i64 i] w fun e w' => e = .returned (.tuple #[.agg #[.int .i64 0, .int .i64 0, .slice none 0 0], .bool false]) ∧ Below w.heap.size w w' := by
  have HH := Lib.hid h
  have HI := Lib.hid hi
  clear h hi
  go_enter Try.func12, Try.ntmps12
  go_wp2_with (first
    | (go_at_call 21; refine (at_no (HH.out.below ((Below.refl _ _).alloc (Nat.le_refl _) _)) i HI.out).mono ?_; rintro e w1 ⟨rfl, hw1⟩; have HW1 := Lib.hid hw1
       have br := (Blk.new w 32 #[.int .i64 0, .int .i64 0, .slice none 0 0]).below HW1.out (by simp)
       have r0 := br.cell 0
       have r1 := br.cell 1
       have r2 := br.cell 2
       have rf := br.frozen
       simp at r0 r1 r2
       have hs := hw1.size
       simp only [World.size_alloc] at hs
       have n1 : w.heap.size < w1.heap.size := by omega
       clear hw1 hs br))
  refine bodyPost_ret (v := .tuple #[.agg #[.int .i64 0, .int .i64 0, .slice none 0 0], .bool false]) (by simp [results, Try.results12, go_sem, r0, r1, r2, n1]) rfl ⟨rfl, ?_⟩
  have hw := ((Below.refl w.heap.size w).alloc (Nat.le_refl _) (.cells #[.int .i64 0, .int .i64 0, .slice none 0 0] 32)).trans (HW1.out.mono (by simp))
  have hs : w.heap.size ≤ w1.heap.size := hw.size
  have h3 := ((hw.setCell (p := ⟨w.heap.size, 0, none⟩) (Nat.le_refl _) (.int .i64 0)).setCell (p := ⟨w.heap.size, 1, none⟩) (Nat.le_refl _) (.int .i64 0)).setCell (p := ⟨w.heap.size, 2, none⟩) (Nat.le_refl _) (.slice none 0 0)
  exact h3.alloc h3.size _
end
end Go.Proofs.Ytgepnglmhalomaa

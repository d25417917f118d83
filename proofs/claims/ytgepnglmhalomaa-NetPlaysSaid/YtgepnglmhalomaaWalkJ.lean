/-
  Own text. The walk over the reference's Take.
-/
import Derived.Test.YtgepnglmhalomaaWalkI
import Derived.IntWalk
namespace Go.Proofs.Ytgepnglmhalomaa
open Go.RowKit
section
variable {w : World} {bp : Nat} {es : List Ent} {G : Option Nat} {c : Nat}
theorem rows_drop_last (es : List Ent) (i : Nat) (h : es.length = i + 1) : (rows es).take (i * 3) ++ [] = rows (es.eraseIdx i) := by
  rw [← rows_erase, List.drop_eq_nil_of_le (by rw [length_rows]; omega)]
set_option maxHeartbeats 1000000 in
theorem rtake_mid (h : NetAt w 29 bp es G c) (hn : es.length ≤ 1000000) (i : Nat) (x : Ent) (hx : es[i]? = some x) (hc : ¬ c = i + 1) :
    Calls Try.prog 13 #[.pointer (some ⟨bp, 0, none⟩), .int .i64 i] w (TakePost w 29 bp es G i x.pk) := by
  have hi : i < es.length := (List.getElem?_eq_some_iff.1 hx).1
  have h0 := h.len_cell
  have hnc := h.row.2.1
  obtain ⟨g, hg, c0, c1, c2⟩ := h.cells hx
  subst hg
  clear c0 c1 c2
  have f0 : (0 : Int) ≤ (i : Int) := by omega
  have f1 : (i : Int) ≤ (c : Int) := by omega
  have f2 : (0 : Int) ≤ (i : Int) + 1 := by omega
  have f3 : (i : Int) + 1 ≤ (es.length : Int) := by omega
  have f4 : (es.length : Int) ≤ (c : Int) := by omega
  unfold sl at h0
  simp only [Option.map_some] at h0
  have HH := Lib.hid h
  have HX := Lib.hid hx
  have hb := h.hd.lt
  have hg := h.lt g (mem_fp.2 (.inr (.inl rfl)))
  have hrow0 : Row w 32 3 (some g) i i ((rows es).take (i * 3)) := by
    have hr := h.row
    refine ⟨by rw [List.length_take, length_rows]; omega, by omega, (fun h => by cases h), fun g' hg' => ?_⟩
    obtain ⟨cur, hb, hs, ht⟩ := hr.2.2.2 g' hg'
    exact ⟨cur, hb, by omega, by rw [← ht, List.take_take, Nat.min_eq_left (by omega)]⟩
  have HR0 := Lib.hid hrow0
  obtain ⟨i32, hi32, hz, hs, hby⟩ := info_parts info32
  clear h hx hrow0 hnc
  go_enter Try.func13, Try.ntmps13
  go_wp2_with (first
    | (go_at_call 22; refine (rat_yes (HH.out.below ((Below.refl _ _).alloc (Nat.le_refl _) _)) i x HX.out).mono ?_; rintro e w1 ⟨rfl, hw1⟩; have HW1 := Lib.hid hw1; have q0 := (hw1.cell (p := ⟨bp, 0, none⟩) (by simp; omega)).trans ((World.cell?_alloc_lt w _ _ hb).trans h0); have hs1 := hw1.size; simp at hs1; have hbs : bp < w1.heap.size := by omega
       have hws : w.heap.size < w1.heap.size := by omega
       clear hw1 hs1))
  have HKW : Kept [] w (w1.alloc (.cells #[.int .i64 x.f, .int .i64 x.t, .slice (x.A.map fun g => ⟨g, 0, none⟩) x.b.length x.c] 32)) := ((Kept.refl [] w).alloc _).trans ((Kept.of_below HW1.out []).alloc _)
  have HBP : Blk (w1.alloc (.cells #[.int .i64 x.f, .int .i64 x.t, .slice (x.A.map fun g => ⟨g, 0, none⟩) x.b.length x.c] 32)) bp 29 #[sl (some g) es.length c] := HH.out.hd.kept HKW (by simp)
  have HP : Blk (w1.alloc (.cells #[.int .i64 x.f, .int .i64 x.t, .slice (x.A.map fun g => ⟨g, 0, none⟩) x.b.length x.c] 32)) w1.heap.size 32 #[.int .i64 x.f, .int .i64 x.t, .slice (x.A.map fun g => ⟨g, 0, none⟩) x.b.length x.c] := Blk.new w1 32 _
  have HRS : Blk (w1.alloc (.cells #[.int .i64 x.f, .int .i64 x.t, .slice (x.A.map fun g => ⟨g, 0, none⟩) x.b.length x.c] 32)) w.heap.size 32 #[.int .i64 0, .int .i64 0, .slice none 0 0] := ((Blk.new w 32 #[.int .i64 0, .int .i64 0, .slice none 0 0]).below HW1.out (by simp)).alloc _
  obtain ⟨P1, hP1⟩ : ∃ P1, P1 = w1.heap.size := ⟨_, rfl⟩
  rw [← hP1] at HP hbs hws ⊢
  have hbP : bp ≠ P1 := by omega
  have hgP : g ≠ P1 := by omega
  generalize w1.alloc (.cells #[.int .i64 x.f, .int .i64 x.t, .slice (x.A.map fun g => ⟨g, 0, none⟩) x.b.length x.c] 32) = W at HKW HBP HP HRS ⊢
  have HRW := Lib.hid (HH.out.row.kept HKW (fun _ _ => by simp))
  have HRC := Lib.hid (HR0.out.kept HKW (fun _ _ => by simp))
  have q1 : W.cell? ⟨bp, 0, none⟩ = some (.slice (some ⟨g, 0, none⟩) es.length c) := by rw [← h0, HH.out.len_cell]; exact HBP.cell 0
  have HK0 := Lib.hid HKW
  have HB0 := Lib.hid HBP
  have HP0 := Lib.hid HP
  have HS0 := Lib.hid HRS
  have hng : bp ≠ g := fun e => HH.out.nodup'.1 (by rw [e])
  clear HKW HBP HP HRS q0 h0 HW1 hP1
  have wr : IntKind.i64.wrap ((i : Int) + 1) = (i : Int) + 1 := IntWalk.i64_in _ (by omega)
  have wt : ((i : Int) + 1).toNat = i + 1 := by omega
  go_region_law (first
      | (refine step_append_row ?hgd (.tmp 22) (.tmp 29) 27 ?ho 32 i32 _ 3 40 Try.underlying27 hi32 hz hs hby ?h4 ?h5 (some g) i i ((rows es).take (i * 3)) ?hs ?rr (some ⟨g, (i + 1) * 3, none⟩) (es.length - (i + 1)) (c - (i + 1)) ((rows es).drop ((i + 1) * 3)) ?hx ?r0 ?r1 ?r2 ?b0 ?b1 ?_
         case hgd => rfl
         case ho => rfl
         case h4 => rfl
         case h5 => omega
         case hs => first | (go_simp; done) | (go_simp; rfl)
         case hx => first | (go_simp; done) | (go_simp; rfl)
         case rr => exact HRC.out.keep fun _ _ => rfl
         case r0 => exact by rw [List.length_drop, length_rows]; omega
         case r1 => exact fun _ => ⟨_, rfl, fun j u hj => by
           have hlt : (i + 1) * 3 + j < es.length * 3 := by
             have := (List.getElem?_eq_some_iff.1 hj).1
             rw [List.length_drop, length_rows] at this
             omega
           rw [Addr.add_lit]
           exact (HRW.out.cell _ hlt).trans (by rw [← hj, List.getElem?_drop])⟩
         case r2 => exact fun u hu => rows_one es u (List.mem_of_mem_drop hu)
         case b0 => omega
         case b1 => omega
         intro G' c' w2 HR HK HG
         have hfr := (HB0.out.drew.kept HK.out (by simpa using hng)).frozen 0
         have q2 := (HB0.out.drew.kept HK.out (by simpa using hng)).cell 0
         unfold sl at q2
         simp at q2))
  all_goals
    have bp1 := HP0.out.drew.kept HK.out (by simpa using Ne.symm hgP)
    have br := HS0.out.drew.kept HK.out (by simp; omega)
    have p0 := bp1.cell 0
    have p1 := bp1.cell 1
    have p2 := bp1.cell 2
    have r0 := br.cell 0
    have r1 := br.cell 1
    have r2 := br.cell 2
    have rf := br.frozen
    simp at p0 p1 p2 r0 r1 r2
    have n1 : bp ≠ w.heap.size := by omega
    have n3 : P1 ≠ w.heap.size := by omega
    clear bp1 br wr wt
    go_wp2
    have hk0 : Kept [g] w w2 := (HK0.out.drew.mono (by simp)).trans HK.out
    have hr := HR.out
    rw [rows_erase] at hr
    have hnet := HH.out.rerowed (w2 := w2) (es' := es.eraseIdx i) (G' := G') (c' := c') (fun e he => List.mem_of_mem_eraseIdx he) (nodup_erase es i HH.out.nodup'.2.2.2)
      (by rw [length_erase es i hi, show es.length - 1 = i + (es.length - (i + 1)) by omega]; exact hr) hk0 (fun k hk => by
        rcases HG.out with h | h
        · exact .inl (h ▸ hk)
        · rw [h] at hk
          injection hk with hk
          have h1 := HK0.out.size
          simp only [World.size_drew] at hk
          exact .inr (by omega))
    rw [length_erase es i hi, show es.length - 1 = i + (es.length - (i + 1)) by omega] at hnet
    have hlt := HH.out.lt
    have hgn : ∀ k, G' = some k → some g = some k ∨ w.heap.size + 1 ≤ k := fun k hk => by
      rcases HG.out with h | h
      · exact .inl (h ▸ hk)
      · rw [h] at hk
        injection hk with hk
        have h1 := HP0.out.lt
        simp only [World.size_drew] at hk
        exact .inr (by omega)
    refine bodyPost_ret (v := .tuple #[.agg #[.int .i64 x.pk.f, .int .i64 x.pk.t, .slice (x.A.map fun g => ⟨g, 0, none⟩) x.pk.b.length x.c], .bool true]) (by simp [results, Try.results13, go_sem, r0, r1, r2, Ent.pk]) rfl ⟨_, _, _, rfl, rfl, ?_, fun ad had => ?_, G', c', ?_, (fun k hk => (hgn k hk).imp id (by omega)), ?_⟩
    · refine (HH.out.mem HX.out).bts.keep fun ad had hl => ?_
      obtain ⟨ga, hga, rfl⟩ : ∃ ga, x.A = some ga ∧ ad = ⟨ga, 0, none⟩ := by
        rcases hA : x.A with _ | ga
        · rw [hA] at had
          cases had
        · rw [hA] at had
          injection had with had
          exact ⟨ga, rfl, had.symm⟩
      have hxm := List.mem_of_getElem? HX.out
      have a1 : ga ≠ g := fun e => HH.out.nodup'.2.2.1 x hxm ga hga (by rw [e])
      have a2 : ga ≠ bp := fun e => HH.out.nodup'.2.1 x hxm (by rw [hga, e])
      have a3 : ga < w.heap.size := hl
      rw [Below.heap_setCell _ _ _ _ (by simp only; omega), Below.heap_setCell _ _ _ _ (by simp only; omega), Below.heap_setCell _ _ _ _ (by simp only; omega), Below.heap_setCell _ _ _ _ (by exact a2)]
      exact hk0.block ga a3 (by simpa using a1)
    · rcases hA : x.A with _ | ga
      · rw [hA] at had
        cases had
      · rw [hA] at had
        injection had with had
        subst had
        exact .inl (mem_fp.2 (.inr (.inr ⟨x, List.mem_of_getElem? HX.out, hA⟩)))
    · refine hnet.keep fun k hk => ?_
      have hkl : k ≠ w.heap.size := by
        rcases mem_fp.1 hk with h | h | ⟨e, he, hA⟩
        · have := hlt bp (mem_fp.2 (.inl rfl))
          omega
        · rcases hgn k h with h1 | h1
          · have := hlt k (mem_fp.2 (.inr (.inl h1)))
            omega
          · omega
        · have := hlt k (mem_fp.2 (.inr (.inr ⟨e, List.mem_of_mem_eraseIdx he, hA⟩)))
          omega
      rw [Below.heap_setCell _ _ _ _ (by exact hkl), Below.heap_setCell _ _ _ _ (by exact hkl), Below.heap_setCell _ _ _ _ (by exact hkl)]
      rfl
    · refine ((((hk0.mono (F' := fp bp (some g) es) (fun k hk => .inl (mem_fp.2 (.inr (.inl (by simpa [eq_comm] using hk)))))).setCell (p := ⟨bp, 0, none⟩) (.inl (mem_fp.2 (.inl rfl))) _).setCell ?_ _).setCell ?_ _).setCell ?_ _ <;> exact .inr (Nat.le_refl _)
set_option maxHeartbeats 1000000 in
theorem rtake_last (h : NetAt w 29 bp es G c) (hn : es.length ≤ 1000000) (i : Nat) (x : Ent) (hx : es[i]? = some x) (hlast : es.length = i + 1) (hcc : c = i + 1) :
    Calls Try.prog 13 #[.pointer (some ⟨bp, 0, none⟩), .int .i64 i] w (TakePost w 29 bp es G i x.pk) := by
  have hi : i < es.length := (List.getElem?_eq_some_iff.1 hx).1
  have h0 := h.len_cell
  have hnc := h.row.2.1
  obtain ⟨g, hg, c0, c1, c2⟩ := h.cells hx
  subst hg
  clear c0 c1 c2
  have f0 : (0 : Int) ≤ (i : Int) := by omega
  have f1 : (i : Int) ≤ (i : Int) + 1 := by omega
  have f2 : (0 : Int) ≤ (i : Int) + 1 := by omega
  unfold sl at h0
  simp only [Option.map_some] at h0
  rw [hlast, hcc] at h0
  have HLA := Lib.hid hlast
  clear hlast hcc
  have HH := Lib.hid h
  have HX := Lib.hid hx
  have hb := h.hd.lt
  have hg := h.lt g (mem_fp.2 (.inr (.inl rfl)))
  have hrow0 : Row w 32 3 (some g) i i ((rows es).take (i * 3)) := by
    have hr := h.row
    refine ⟨by rw [List.length_take, length_rows]; omega, by omega, (fun h => by cases h), fun g' hg' => ?_⟩
    obtain ⟨cur, hb, hs, ht⟩ := hr.2.2.2 g' hg'
    exact ⟨cur, hb, by omega, by rw [← ht, List.take_take, Nat.min_eq_left (by omega)]⟩
  have HR0 := Lib.hid hrow0
  obtain ⟨i32, hi32, hz, hs, hby⟩ := info_parts info32
  clear h hx hrow0 hnc
  go_enter Try.func13, Try.ntmps13
  go_wp2_with (first
    | (go_at_call 22; refine (rat_yes (HH.out.below ((Below.refl _ _).alloc (Nat.le_refl _) _)) i x HX.out).mono ?_; rintro e w1 ⟨rfl, hw1⟩; have HW1 := Lib.hid hw1; have q0 := (hw1.cell (p := ⟨bp, 0, none⟩) (by simp; omega)).trans ((World.cell?_alloc_lt w _ _ hb).trans h0); have hs1 := hw1.size; simp at hs1; have hbs : bp < w1.heap.size := by omega
       have hws : w.heap.size < w1.heap.size := by omega
       clear hw1 hs1))
  have HKW : Kept [] w (w1.alloc (.cells #[.int .i64 x.f, .int .i64 x.t, .slice (x.A.map fun g => ⟨g, 0, none⟩) x.b.length x.c] 32)) := ((Kept.refl [] w).alloc _).trans ((Kept.of_below HW1.out []).alloc _)
  have HBP : Blk (w1.alloc (.cells #[.int .i64 x.f, .int .i64 x.t, .slice (x.A.map fun g => ⟨g, 0, none⟩) x.b.length x.c] 32)) bp 29 #[sl (some g) es.length c] := HH.out.hd.kept HKW (by simp)
  have HP : Blk (w1.alloc (.cells #[.int .i64 x.f, .int .i64 x.t, .slice (x.A.map fun g => ⟨g, 0, none⟩) x.b.length x.c] 32)) w1.heap.size 32 #[.int .i64 x.f, .int .i64 x.t, .slice (x.A.map fun g => ⟨g, 0, none⟩) x.b.length x.c] := Blk.new w1 32 _
  have HRS : Blk (w1.alloc (.cells #[.int .i64 x.f, .int .i64 x.t, .slice (x.A.map fun g => ⟨g, 0, none⟩) x.b.length x.c] 32)) w.heap.size 32 #[.int .i64 0, .int .i64 0, .slice none 0 0] := ((Blk.new w 32 #[.int .i64 0, .int .i64 0, .slice none 0 0]).below HW1.out (by simp)).alloc _
  obtain ⟨P1, hP1⟩ : ∃ P1, P1 = w1.heap.size := ⟨_, rfl⟩
  rw [← hP1] at HP hbs hws ⊢
  have hbP : bp ≠ P1 := by omega
  have hgP : g ≠ P1 := by omega
  generalize w1.alloc (.cells #[.int .i64 x.f, .int .i64 x.t, .slice (x.A.map fun g => ⟨g, 0, none⟩) x.b.length x.c] 32) = W at HKW HBP HP HRS ⊢
  have HRW := Lib.hid (HH.out.row.kept HKW (fun _ _ => by simp))
  have HRC := Lib.hid (HR0.out.kept HKW (fun _ _ => by simp))
  have q1 : W.cell? ⟨bp, 0, none⟩ = some (.slice (some ⟨g, 0, none⟩) (i + 1) (i + 1)) := by rw [← h0, HH.out.len_cell]; exact HBP.cell 0
  have HK0 := Lib.hid HKW
  have HB0 := Lib.hid HBP
  have HP0 := Lib.hid HP
  have HS0 := Lib.hid HRS
  have hng : bp ≠ g := fun e => HH.out.nodup'.1 (by rw [e])
  clear HKW HBP HP HRS q0 h0 HW1 hP1
  have wr : IntKind.i64.wrap ((i : Int) + 1) = (i : Int) + 1 := IntWalk.i64_in _ (by omega)
  have wt : ((i : Int) + 1).toNat = i + 1 := by omega
  go_region_law (first
      | (refine step_append_row ?hgd (.tmp 22) (.tmp 29) 27 ?ho 32 i32 _ 3 40 Try.underlying27 hi32 hz hs hby ?h4 ?h5 (some g) i i ((rows es).take (i * 3)) ?hs ?rr (some ⟨g, 0, none⟩) 0 0 [] ?hx ?r0 ?r1 ?r2 ?b0 ?b1 ?_
         case hgd => rfl
         case ho => rfl
         case h4 => rfl
         case h5 => omega
         case hs => first | (go_simp; done) | (go_simp; rfl)
         case hx => first | (go_simp; done) | (go_simp; rfl)
         case rr => exact HRC.out.keep fun _ _ => rfl
         case r0 => exact rfl
         case r1 => exact fun h => absurd h (by omega)
         case r2 => exact fun u hu => by cases hu
         case b0 => omega
         case b1 => omega
         intro G' c' w2 HR HK HG
         have hfr := (HB0.out.drew.kept HK.out (by simpa using hng)).frozen 0
         have q2 := (HB0.out.drew.kept HK.out (by simpa using hng)).cell 0
         unfold sl at q2
         simp at q2))
  all_goals
    have bp1 := HP0.out.drew.kept HK.out (by simpa using Ne.symm hgP)
    have br := HS0.out.drew.kept HK.out (by simp; omega)
    have p0 := bp1.cell 0
    have p1 := bp1.cell 1
    have p2 := bp1.cell 2
    have r0 := br.cell 0
    have r1 := br.cell 1
    have r2 := br.cell 2
    have rf := br.frozen
    simp at p0 p1 p2 r0 r1 r2
    have n1 : bp ≠ w.heap.size := by omega
    have n3 : P1 ≠ w.heap.size := by omega
    clear bp1 br wr wt
    go_wp2
    have hk0 : Kept [g] w w2 := (HK0.out.drew.mono (by simp)).trans HK.out
    have hr := HR.out
    rw [rows_drop_last es i HLA.out] at hr
    have hnet := HH.out.rerowed (w2 := w2) (es' := es.eraseIdx i) (G' := G') (c' := c') (fun e he => List.mem_of_mem_eraseIdx he) (nodup_erase es i HH.out.nodup'.2.2.2)
      (by rw [length_erase es i hi, show es.length - 1 = i + 0 by have := HLA.out; omega]; exact hr) hk0 (fun k hk => by
        rcases HG.out with h | h
        · exact .inl (h ▸ hk)
        · rw [h] at hk
          injection hk with hk
          have h1 := HK0.out.size
          simp only [World.size_drew] at hk
          exact .inr (by omega))
    rw [length_erase es i hi, show es.length - 1 = i + 0 by have := HLA.out; omega] at hnet
    have hlt := HH.out.lt
    have hgn : ∀ k, G' = some k → some g = some k ∨ w.heap.size + 1 ≤ k := fun k hk => by
      rcases HG.out with h | h
      · exact .inl (h ▸ hk)
      · rw [h] at hk
        injection hk with hk
        have h1 := HP0.out.lt
        simp only [World.size_drew] at hk
        exact .inr (by omega)
    refine bodyPost_ret (v := .tuple #[.agg #[.int .i64 x.pk.f, .int .i64 x.pk.t, .slice (x.A.map fun g => ⟨g, 0, none⟩) x.pk.b.length x.c], .bool true]) (by simp [results, Try.results13, go_sem, r0, r1, r2, Ent.pk]) rfl ⟨_, _, _, rfl, rfl, ?_, fun ad had => ?_, G', c', ?_, (fun k hk => (hgn k hk).imp id (by omega)), ?_⟩
    · refine (HH.out.mem HX.out).bts.keep fun ad had hl => ?_
      obtain ⟨ga, hga, rfl⟩ : ∃ ga, x.A = some ga ∧ ad = ⟨ga, 0, none⟩ := by
        rcases hA : x.A with _ | ga
        · rw [hA] at had
          cases had
        · rw [hA] at had
          injection had with had
          exact ⟨ga, rfl, had.symm⟩
      have hxm := List.mem_of_getElem? HX.out
      have a1 : ga ≠ g := fun e => HH.out.nodup'.2.2.1 x hxm ga hga (by rw [e])
      have a2 : ga ≠ bp := fun e => HH.out.nodup'.2.1 x hxm (by rw [hga, e])
      have a3 : ga < w.heap.size := hl
      rw [Below.heap_setCell _ _ _ _ (by simp only; omega), Below.heap_setCell _ _ _ _ (by simp only; omega), Below.heap_setCell _ _ _ _ (by simp only; omega), Below.heap_setCell _ _ _ _ (by exact a2)]
      exact hk0.block ga a3 (by simpa using a1)
    · rcases hA : x.A with _ | ga
      · rw [hA] at had
        cases had
      · rw [hA] at had
        injection had with had
        subst had
        exact .inl (mem_fp.2 (.inr (.inr ⟨x, List.mem_of_getElem? HX.out, hA⟩)))
    · refine hnet.keep fun k hk => ?_
      have hkl : k ≠ w.heap.size := by
        rcases mem_fp.1 hk with h | h | ⟨e, he, hA⟩
        · have := hlt bp (mem_fp.2 (.inl rfl))
          omega
        · rcases hgn k h with h1 | h1
          · have := hlt k (mem_fp.2 (.inr (.inl h1)))
            omega
          · omega
        · have := hlt k (mem_fp.2 (.inr (.inr ⟨e, List.mem_of_mem_eraseIdx he, hA⟩)))
          omega
      rw [Below.heap_setCell _ _ _ _ (by exact hkl), Below.heap_setCell _ _ _ _ (by exact hkl), Below.heap_setCell _ _ _ _ (by exact hkl)]
      rfl
    · refine ((((hk0.mono (F' := fp bp (some g) es) (fun k hk => .inl (mem_fp.2 (.inr (.inl (by simpa [eq_comm] using hk)))))).setCell (p := ⟨bp, 0, none⟩) (.inl (mem_fp.2 (.inl rfl))) _).setCell ?_ _).setCell ?_ _).setCell ?_ _ <;> exact .inr (Nat.le_refl _)
theorem rtake_yes (h : NetAt w 29 bp es G c) (hn : es.length ≤ 1000000) (i : Nat) (x : Ent) (hx : es[i]? = some x) :
    Calls Try.prog 13 #[.pointer (some ⟨bp, 0, none⟩), .int .i64 i] w (TakePost w 29 bp es G i x.pk) := by
  by_cases hc : c = i + 1
  · have h1 := h.row.2.1
    have h2 := (List.getElem?_eq_some_iff.1 hx).1
    exact rtake_last h hn i x hx (by omega) hc
  · exact rtake_mid h hn i x hx hc
set_option maxHeartbeats 400000 in
theorem rtake_no (h : NetAt w 29 bp es G c) (i : Int) (hi : i < 0 ∨ (es.length : Int) ≤ i) :
    Calls Try.prog 13 #[.pointer (some ⟨bp, 0, none⟩), .int .i64 i] w fun e w' => e = .returned (.tuple #[.agg #[.int .i64 0, .int .i64 0, .slice none 0 0], .bool false]) ∧ Below w.heap.size w w' := by
  have HH := Lib.hid h
  have HI := Lib.hid hi
  clear h hi
  go_enter Try.func13, Try.ntmps13
  go_wp2_with (first
    | (go_at_call 22; refine (rat_no (HH.out.below ((Below.refl _ _).alloc (Nat.le_refl _) _)) i HI.out).mono ?_; rintro e w1 ⟨rfl, hw1⟩; have HW1 := Lib.hid hw1
       have br := (Blk.new w 32 #[.int .i64 0, .int .i64 0, .slice none 0 0]).below HW1.out (by simp)
       have r0 := br.cell 0
       have r1 := br.cell 1
       have r2 := br.cell 2
       have rf := br.frozen
       simp at r0 r1 r2
       have hs := hw1.size
       simp only [World.size_alloc] at hs
       have n1 : w.heap.size < w1.heap.size := by omega
       clear hw1 hs br))
  refine bodyPost_ret (v := .tuple #[.agg #[.int .i64 0, .int .i64 0, .slice none 0 0], .bool false]) (by simp [results, Try.results13, go_sem, r0, r1, r2, n1]) rfl ⟨rfl, ?_⟩
  have hw := ((Below.refl w.heap.size w).alloc (Nat.le_refl _) (.cells #[.int .i64 0, .int .i64 0, .slice none 0 0] 32)).trans (HW1.out.mono (by simp))
  have hs : w.heap.size ≤ w1.heap.size := hw.size
  have h3 := ((hw.setCell (p := ⟨w.heap.size, 0, none⟩) (Nat.le_refl _) (.int .i64 0)).setCell (p := ⟨w.heap.size, 1, none⟩) (Nat.le_refl _) (.int .i64 0)).setCell (p := ⟨w.heap.size, 2, none⟩) (Nat.le_refl _) (.slice none 0 0)
  exact h3.alloc h3.size _
end
end Go.Proofs.Ytgepnglmhalomaa

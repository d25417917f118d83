/-
  Own text. The walk over the reference's Spoil.
-/
import Derived.Test.YtgepnglmhalomaaWalkG
namespace Go.Proofs.Ytgepnglmhalomaa
open Go.RowKit
section
variable {w w1 : World} {T bp : Nat} {es : List Ent} {G : Option Nat} {c : Nat} {i g : Nat} {x e : Ent}

theorem set_self {α : Type} {l : List α} {i : Nat} {a : α} (h : l[i]? = some a) : l.set i a = l := by
  obtain ⟨h1, h2⟩ := List.getElem?_eq_some_iff.1 h
  subst h2
  exact List.set_getElem_self h1

theorem mem_filterMap_set {a : Nat} {es : List Ent} {i : Nat} {e : Ent} (h : a ∈ (es.set i e).filterMap Ent.A) : e.A = some a ∨ a ∈ es.filterMap Ent.A := by
  obtain ⟨z, hz, hA⟩ := List.mem_filterMap.1 h
  rcases List.mem_or_eq_of_mem_set hz with h | h
  · exact .inr (List.mem_filterMap.2 ⟨z, h, hA⟩)
  · exact .inl (h ▸ hA)

theorem nodup_filterMap_set (es : List Ent) (i : Nat) (e : Ent) (h : (es.filterMap Ent.A).Nodup) (hn : ∀ a, e.A = some a → a ∉ es.filterMap Ent.A) : ((es.set i e).filterMap Ent.A).Nodup := by
  induction es generalizing i with
  | nil => simp
  | cons z es ih =>
    have htl : (es.filterMap Ent.A).Nodup := by
      rw [List.filterMap_cons] at h
      rcases hz : z.A with _ | k
      · rw [hz] at h; exact h
      · rw [hz] at h; exact (List.nodup_cons.1 h).2
    have hsub : ∀ a, a ∈ es.filterMap Ent.A → a ∈ (z :: es).filterMap Ent.A := fun a ha => by
      obtain ⟨y, hy, hA⟩ := List.mem_filterMap.1 ha
      exact List.mem_filterMap.2 ⟨y, List.mem_cons_of_mem _ hy, hA⟩
    rcases i with _ | i
    · rw [List.set_cons_zero, List.filterMap_cons]
      rcases he : e.A with _ | k
      · exact htl
      · exact List.nodup_cons.2 ⟨fun hm => hn k he (hsub k hm), htl⟩
    · rw [List.set_cons_succ, List.filterMap_cons]
      have ih := ih i htl (fun a ha hm => hn a ha (hsub a hm))
      rcases hz : z.A with _ | k
      · exact ih
      · refine List.nodup_cons.2 ⟨fun hm => ?_, ih⟩
        rcases mem_filterMap_set hm with h1 | h1
        · exact hn k h1 (List.mem_filterMap.2 ⟨z, List.mem_cons_self, hz⟩)
        · rw [List.filterMap_cons, hz] at h
          exact (List.nodup_cons.1 h).1 h1

/-- A parcel's bytes are put elsewhere. -/
theorem NetAt.renewed (h : NetAt w T bp es (some g) c) (hx : es[i]? = some x) (hk : Kept [] w w1) (he : EntOk w1 e) (hf : e.f = x.f) (ht : e.t = x.t) (hA : ∀ a, e.A = some a → w.heap.size ≤ a) :
    NetAt (w1.setCell ⟨g, i * 3 + 2, none⟩ e.bs) T bp (es.set i e) (some g) c := by
  obtain ⟨n1, n2, n3, n4⟩ := h.nodup'
  have hlt := h.lt
  have hg : g < w.heap.size := hlt g (mem_fp.2 (.inr (.inl rfl)))
  have hgb : bp ≠ g := fun e => n1 (by rw [e])
  have hnew : ∀ a, e.A = some a → a ∉ es.filterMap Ent.A := fun a ha hm => by
    obtain ⟨y, hy, hyA⟩ := List.mem_filterMap.1 hm
    have := (h.ents y hy).lt hyA
    have := hA a ha
    omega
  refine ⟨?_, ?_, fun z hz => ?_, ?_⟩
  · simp only [List.length_set]
    exact (h.hd.kept hk (by simp)).far (p := ⟨g, i * 3 + 2, none⟩) hgb _
  · have hr := (h.row.kept hk (fun _ _ => by simp)).set_ (i * 3 + 2) e.bs
    have hl : i < es.length := (List.getElem?_eq_some_iff.1 hx).1
    have h0 : (rows es).set (i * 3) (.int .i64 e.f) = rows es := by
      have := rows_get es i x hx 0 (by omega)
      rw [Nat.add_zero] at this
      rw [hf]
      exact set_self this
    have h1 : (rows es).set (i * 3 + 1) (.int .i64 e.t) = rows es := by
      rw [ht]
      exact set_self (rows_get es i x hx 1 (by omega))
    have := rows_set es i e
    rw [h0, h1] at this
    rw [← this, List.length_set]
    exact hr
  · rcases mem_set hz with rfl | ⟨j, _, hj⟩
    · refine he.keep fun k hk' => Below.heap_setCell _ _ _ _ ?_
      rintro rfl
      have := hA _ hk'
      omega
    · have hm := List.mem_of_getElem? hj
      refine ((h.ents z hm).keep (w' := w1) fun k hk' => hk.block k ((h.ents z hm).lt hk') (by simp)).keep fun k hk' => Below.heap_setCell _ _ _ _ ?_
      rintro rfl
      exact n3 z hm _ hk' rfl
  · refine nodup_fp n1 (fun z hz => ?_) (fun z hz k hk' hG => ?_) (nodup_filterMap_set es i e n4 hnew)
    · rcases mem_set hz with rfl | ⟨j, _, hj⟩
      · intro hb
        have := hA _ hb
        have := h.hd.lt
        omega
      · exact n2 z (List.mem_of_getElem? hj)
    · rcases mem_set hz with rfl | ⟨j, _, hj⟩
      · injection hG with hG
        have := hA _ hk'
        omega
      · exact n3 z (List.mem_of_getElem? hj) k hk' hG
end
section
variable {w : World} {bp : Nat} {es : List Ent} {G : Option Nat} {c : Nat}
/-- A byte has been changed in a copy, which stands in the place of the parcel's bytes. -/
def RSpoilPost (w : World) (bp : Nat) (es : List Ent) (G : Option Nat) (c i : Nat) (x : Ent) (b' : List UInt8) (e : Ending) (w' : World) : Prop :=
  e = .returned (.bool true) ∧ ∃ A' c', NetAt w' 29 bp (es.set i ⟨x.f, x.t, b', A', c'⟩) G c ∧ (∀ a, A' = some a → w.heap.size ≤ a) ∧ Kept (fp bp G es) w w'
set_option maxHeartbeats 400000 in
theorem rspoil_yes (h : NetAt w 29 bp es G c) (i : Nat) (x : Ent) (hx : es[i]? = some x) (k : Nat) (v : UInt8) (hv : x.b[k]? = some v) (b : Int) (hb : (b % 256 == 0) = false) :
    Calls Try.prog 20 #[.pointer (some ⟨bp, 0, none⟩), .int .i64 i, .int .i64 k, .int .i64 b] w (RSpoilPost w bp es G c i x (x.b.set k (spoilt v b))) := by
  have hi : i < es.length := (List.getElem?_eq_some_iff.1 hx).1
  have hk : k < x.b.length := (List.getElem?_eq_some_iff.1 hv).1
  have h0 := h.len_cell
  obtain ⟨g, hg, c0, c1, c2⟩ := h.cells hx
  subst hg
  have hok := h.mem hx
  have hf := h.row.frozen
  unfold sl at h0
  simp only [Option.map_some] at h0
  unfold Ent.bs sl at c2
  have HH := Lib.hid h
  have HO := Lib.hid hok
  have HX := Lib.hid hx
  have HV := Lib.hid hv
  have i0 : (0 : Int) ≤ (i : Int) := by omega
  have i1 : (i : Int) < (es.length : Int) := by omega
  have k0 : (0 : Int) ≤ (k : Int) := by omega
  have k1 : (k : Int) < (x.b.length : Int) := by omega
  have kd0 : decide ((k : Int) < 0) = false := by simp
  have kd1 : decide (x.b.length ≤ k) = false := by simp; omega
  have hand := and_255 b
  obtain ⟨i5, hi5, hz5, hs5, hb5⟩ := info_parts info5
  have HN := Lib.hid (show Row w 5 1 none 0 0 [] from ⟨rfl, Nat.le_refl _, fun _ => rfl, fun g hg => by cases hg⟩)
  clear h hx hi hok hk hv
  go_enter Try.func20, Try.ntmps20
  go_wp2_with (first
    | (go_at_call 26; refine (rhas_yes HH.out _ (by omega)).mono ?_; rintro e w' ⟨rfl, rfl⟩)
    | (at_builtin
       refine wpList_append_row rfl (.const (.slice none 0 0)) (.tmp 43) 30 rfl 5 i5 _ 1 1 Try.underlying30 hi5 hz5 hs5 hb5 rfl (by omega) none 0 0 [] rfl HN.out (x.A.map fun g => ⟨g, 0, none⟩) x.b.length x.c (x.b.map bval) rfl ?r0 ?r1 (bval_one _) (by have := HO.out.len; omega) (by omega) ?_
       case r0 => rw [List.length_map, Nat.mul_one]
       case r1 => exact fun hp => HO.out.bts hp
       intro G1 cp1 w1 HR1 HK1 HG1
       obtain ⟨ga, hga⟩ := HR1.out.some_of_pos (by omega)
       rw [hga] at HR1 HG1
       rw [hga, Option.map_some]
       have HGA := Lib.hid hga
       have hgn : w.heap.size ≤ ga := by
         rcases HG1.out with h | h
         · cases h
         · injection h with h
           omega
       have hlb := HH.out.hd.lt
       have hlg := HH.out.lt g (mem_fp.2 (.inr (.inl rfl)))
       have n1 : bp ≠ ga := by omega
       have n2 : g ≠ ga := by omega
       have n3 : ga ≠ bp := by omega
       have n4 : ga ≠ g := by omega
       have hbw := HK1.out.below
       have HBW := Lib.hid hbw
       have a0 := (hbw.cell (p := ⟨bp, 0, none⟩) hlb).trans h0
       have a1 := (hbw.cell (p := ⟨g, i * 3 + 2, none⟩) hlg).trans c2
       have a2 := (hbw.frozen (p := ⟨g, i * 3 + 2, none⟩) hlg).trans (hf _)
       have a3 := HR1.out.cell k (by omega)
       have a4 := HR1.out.frozen k
       rw [List.nil_append, List.getElem?_map, HV.out, Option.map_some] at a3
       unfold bval at a3
       clear hga hbw hgn hlb hlg h0 c0 c1 c2))
  go_ret
  rw [xor_u8]
  have hga : w.heap.size ≤ ga := by
    rcases HG1.out with h | h
    · cases h
    · injection h with h
      omega
  have hk1 : Kept [] w (w1.setCell ⟨ga, k, none⟩ (bval (spoilt v b))) := (Kept.of_below HBW.out []).setCell (p := ⟨ga, k, none⟩) (.inr hga) _
  have hr : Row (w1.setCell ⟨ga, k, none⟩ (bval (spoilt v b))) 5 1 (some ga) cp1 (x.b.set k (spoilt v b)).length ((x.b.set k (spoilt v b)).map bval) := by
    have h := HR1.out.set_ k (bval (spoilt v b))
    rw [List.nil_append, Nat.zero_add, ← List.map_set] at h
    rw [List.length_set]
    exact h
  obtain ⟨hb1, hb2⟩ := row_bytes hr
  have hnet := HH.out.renewed (e := ⟨x.f, x.t, x.b.set k (spoilt v b), some ga, cp1⟩) HX.out hk1 ⟨hb1, hb2, by simp only [List.length_set]; exact HO.out.len⟩ rfl rfl (fun a ha => by injection ha with ha; omega)
  refine ⟨rfl, some ga, cp1, ?_, fun a ha => by injection ha with ha; omega, ?_⟩
  · simp only [Ent.bs, sl, Option.map_some, List.length_set] at hnet
    exact hnet
  · exact (hk1.mono (by simp)).setCell (p := ⟨g, i * 3 + 2, none⟩) (.inl (mem_fp.2 (.inr (.inl rfl)))) _
set_option maxHeartbeats 400000 in
theorem rspoil_no (h : NetAt w 29 bp es G c) (i k b : Int) (hi : (i < 0 ∨ (es.length : Int) ≤ i) ∨ ∃ (j : Nat) (x : Ent), i = j ∧ es[j]? = some x ∧ ((k < 0 ∨ (x.b.length : Int) ≤ k) ∨ b % 256 = 0)) :
    Calls Try.prog 20 #[.pointer (some ⟨bp, 0, none⟩), .int .i64 i, .int .i64 k, .int .i64 b] w fun e w' => e = .returned (.bool false) ∧ w = w' := by
  have hand := and_255 b
  have HH := Lib.hid h
  by_cases hni : i < 0 ∨ (es.length : Int) ≤ i
  · have HI := Lib.hid hni
    clear h hi hni
    go_enter Try.func20, Try.ntmps20
    go_wp2_with (first
      | (go_at_call 26; refine (rhas_no HH.out i HI.out).mono ?_; rintro e w' ⟨rfl, rfl⟩))
    go_ret
    exact ⟨rfl, rfl⟩
  · obtain ⟨j, x, rfl, hx, hcs⟩ := hi.resolve_left hni
    have hj : j < es.length := (List.getElem?_eq_some_iff.1 hx).1
    have h0 := h.len_cell
    obtain ⟨g, hg, c0, c1, c2⟩ := h.cells hx
    subst hg
    unfold sl at h0
    simp only [Option.map_some] at h0
    unfold Ent.bs sl at c2
    have i0 : (0 : Int) ≤ (j : Int) := by omega
    have i1 : (j : Int) < (es.length : Int) := by omega
    have HJ := Lib.hid hj
    clear h hi hni hx hj
    by_cases k0 : k < 0
    · have kd0 : decide (k < 0) = true := by simp; omega
      clear hcs
      go_enter Try.func20, Try.ntmps20
      go_wp2_with (first
        | (go_at_call 26; refine (rhas_yes HH.out _ HJ.out).mono ?_; rintro e w' ⟨rfl, rfl⟩))
      go_ret
      exact ⟨rfl, rfl⟩
    · obtain ⟨m, rfl⟩ : ∃ m : Nat, k = m := ⟨k.toNat, by omega⟩
      have kd0 : decide ((m : Int) < 0) = false := by simp
      by_cases k1 : x.b.length ≤ m
      · have kd1 : decide (x.b.length ≤ m) = true := by simpa using k1
        clear hcs k0
        go_enter Try.func20, Try.ntmps20
        go_wp2_with (first
          | (go_at_call 26; refine (rhas_yes HH.out _ HJ.out).mono ?_; rintro e w' ⟨rfl, rfl⟩))
        go_ret
        exact ⟨rfl, rfl⟩
      · have kd1 : decide (x.b.length ≤ m) = false := by simpa using k1
        have hb : (b % 256 == 0) = true := by
          have : b % 256 = 0 := by omega
          simpa using this
        clear hcs k0 k1
        go_enter Try.func20, Try.ntmps20
        go_wp2_with (first
          | (go_at_call 26; refine (rhas_yes HH.out _ HJ.out).mono ?_; rintro e w' ⟨rfl, rfl⟩))
        go_ret
        exact ⟨rfl, rfl⟩
end
end Go.Proofs.Ytgepnglmhalomaa

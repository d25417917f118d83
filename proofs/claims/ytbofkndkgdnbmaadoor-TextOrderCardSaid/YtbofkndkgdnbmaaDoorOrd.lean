/-
  Own text. Plain Lean: in which order texts stand; the order of lists of runes, then of bytes.
-/
import Derived.Test.YtbofkndkgdnbmaaDoorRule
import Derived.Laws.Strings
namespace Go.Proofs.YtbofkndkgdnbmaaDoor

/-- By the first rune that differs; the shorter one first. -/
def lessL : List Nat → List Nat → Bool
  | [], [] => false
  | [], _ :: _ => true
  | _ :: _, [] => false
  | a :: x, b :: y => if a = b then lessL x y else decide (a < b)

theorem lessL_irrefl : ∀ x, lessL x x = false
  | [] => rfl
  | a :: x => by simp [lessL, lessL_irrefl x]
theorem lessL_asymm : ∀ x y, lessL x y = true → lessL y x = false
  | [], [], h => by simp [lessL] at h
  | [], _ :: _, _ => rfl
  | _ :: _, [], h => by simp [lessL] at h
  | a :: x, b :: y, h => by
    unfold lessL at h ⊢
    by_cases hab : a = b
    · rw [if_pos hab] at h
      rw [if_pos hab.symm]
      exact lessL_asymm x y h
    · rw [if_neg hab] at h
      rw [if_neg (Ne.symm hab)]
      simp at h ⊢
      omega
theorem lessL_total : ∀ x y, lessL x y = false → lessL y x = false → x = y
  | [], [], _, _ => rfl
  | [], _ :: _, h, _ => by simp [lessL] at h
  | _ :: _, [], _, h => by simp [lessL] at h
  | a :: x, b :: y, h, h' => by
    unfold lessL at h h'
    by_cases hab : a = b
    · rw [if_pos hab] at h
      rw [if_pos hab.symm] at h'
      rw [hab, lessL_total x y h h']
    · rw [if_neg hab] at h
      rw [if_neg (Ne.symm hab)] at h'
      simp at h h'
      omega
theorem lessL_trans : ∀ x y z, lessL x y = true → lessL y z = true → lessL x z = true
  | [], [], _, h, _ => by simp [lessL] at h
  | [], _ :: _, [], _, h => by simp [lessL] at h
  | [], _ :: _, _ :: _, _, _ => rfl
  | _ :: _, [], _, h, _ => by simp [lessL] at h
  | _ :: _, _ :: _, [], _, h => by simp [lessL] at h
  | a :: x, b :: y, c :: z, h, h' => by
    unfold lessL at h h' ⊢
    by_cases hab : a = b
    · rw [if_pos hab] at h
      subst hab
      by_cases hac : a = c
      · rw [if_pos hac] at h' ⊢
        exact lessL_trans x y z h h'
      · rw [if_neg hac] at h' ⊢
        exact h'
    · rw [if_neg hab] at h
      by_cases hbc : b = c
      · subst hbc
        rw [if_neg hab]
        exact h
      · rw [if_neg hbc] at h'
        simp at h h'
        have hac : a ≠ c := by omega
        rw [if_neg hac]
        simp
        omega

/-- The runes first; of two texts with the same runes (small ones) the bytes. -/
def lessT (a b : List UInt8) : Bool := if (D a).map smallN = (D b).map smallN then Op.bytesLess a b else lessL ((D a).map smallN) ((D b).map smallN)

theorem bytes_lessL : ∀ x y : List UInt8, Op.bytesLess x y = lessL (x.map UInt8.toNat) (y.map UInt8.toNat)
  | [], [] => rfl
  | [], _ :: _ => rfl
  | _ :: _, [] => rfl
  | a :: x, b :: y => by
    simp only [Op.bytesLess, List.map_cons, lessL]
    rw [bytes_lessL x y]
    by_cases hab : a = b
    · subst hab
      simp
    · have h : ¬ a.toNat = b.toNat := fun e => hab (UInt8.toNat_inj.1 e)
      rw [if_neg h, beq_eq_false_iff_ne.2 hab, Bool.false_and, Bool.or_false]
      rfl
theorem bytes_inj {x y : List UInt8} (h : x.map UInt8.toNat = y.map UInt8.toNat) : x = y := by
  have := List.map_inj_right (f := UInt8.toNat) (l := x) (l' := y) (fun a b e => UInt8.toNat_inj.1 e)
  exact this.1 h

theorem lessT_asymm {a b : List UInt8} (h : lessT a b = true) : lessT b a = false := by
  unfold lessT at h ⊢
  by_cases e : (D a).map smallN = (D b).map smallN
  · rw [if_pos e] at h
    rw [if_pos e.symm]
    rw [bytes_lessL] at h ⊢
    exact lessL_asymm _ _ h
  · rw [if_neg e] at h
    rw [if_neg (Ne.symm e)]
    exact lessL_asymm _ _ h
theorem lessT_total {a b : List UInt8} (h : lessT a b = false) (h' : lessT b a = false) : a = b := by
  unfold lessT at h h'
  by_cases e : (D a).map smallN = (D b).map smallN
  · rw [if_pos e] at h
    rw [if_pos e.symm] at h'
    rw [bytes_lessL] at h h'
    exact bytes_inj (lessL_total _ _ h h')
  · rw [if_neg e] at h
    rw [if_neg (Ne.symm e)] at h'
    exact absurd (lessL_total _ _ h h') e
theorem lessT_trans {a b c : List UInt8} (h : lessT a b = true) (h' : lessT b c = true) : lessT a c = true := by
  unfold lessT at h h' ⊢
  by_cases e : (D a).map smallN = (D b).map smallN
  · rw [if_pos e] at h
    rw [e]
    by_cases e' : (D b).map smallN = (D c).map smallN
    · rw [if_pos e'] at h' ⊢
      rw [bytes_lessL] at h h' ⊢
      exact lessL_trans _ _ _ h h'
    · rw [if_neg e'] at h' ⊢
      exact h'
  · rw [if_neg e] at h
    by_cases e' : (D b).map smallN = (D c).map smallN
    · rw [← e', if_neg e]
      exact h
    · rw [if_neg e'] at h'
      have ht := lessL_trans _ _ _ h h'
      rw [if_neg fun e2 => by rw [e2] at ht; rw [lessL_irrefl] at ht; cases ht]
      exact ht

theorem lessL_diff : ∀ (x y : List Nat) (k a b : Nat), x.take k = y.take k → x[k]? = some a → y[k]? = some b → a ≠ b → lessL x y = decide (a < b) ∧ x ≠ y
  | [], _, k, a, b, _, hx, _, _ => by simp at hx
  | _ :: _, [], k, a, b, _, _, hy, _ => by simp at hy
  | c :: x, d :: y, 0, a, b, _, hx, hy, hab => by
    simp only [List.getElem?_cons_zero, Option.some.injEq] at hx hy
    subst hx
    subst hy
    unfold lessL
    rw [if_neg hab]
    exact ⟨rfl, fun e => hab (List.cons.inj e).1⟩
  | c :: x, d :: y, k + 1, a, b, ht, hx, hy, hab => by
    simp only [List.take_succ_cons, List.cons.injEq] at ht
    simp only [List.getElem?_cons_succ] at hx hy
    obtain ⟨h1, h2⟩ := lessL_diff x y k a b ht.2 hx hy hab
    unfold lessL
    rw [if_pos ht.1]
    exact ⟨h1, fun e => h2 (List.cons.inj e).2⟩
theorem lessL_short : ∀ (x y : List Nat), x.take (min x.length y.length) = y.take (min x.length y.length) → x.length ≠ y.length → lessL x y = decide (x.length < y.length) ∧ x ≠ y
  | [], [], _, h => absurd rfl h
  | [], _ :: _, _, _ => ⟨by simp [lessL], by simp⟩
  | _ :: _, [], _, _ => ⟨by simp [lessL], by simp⟩
  | c :: x, d :: y, ht, hne => by
    simp only [List.length_cons, Nat.succ_min_succ, List.take_succ_cons, List.cons.injEq] at ht
    obtain ⟨h1, h2⟩ := lessL_short x y ht.2 (fun e => hne (by simp [e]))
    unfold lessL
    rw [if_pos ht.1, h1]
    refine ⟨?_, fun e => h2 (List.cons.inj e).2⟩
    simp
theorem lessT_diff {a b : List UInt8} {k u v : Nat} (ht : ((D a).map smallN).take k = ((D b).map smallN).take k) (hx : ((D a).map smallN)[k]? = some u) (hy : ((D b).map smallN)[k]? = some v) (h : u ≠ v) : lessT a b = decide (u < v) := by
  obtain ⟨h1, h2⟩ := lessL_diff _ _ k u v ht hx hy h
  unfold lessT
  rw [if_neg h2, h1]
theorem lessT_short {a b : List UInt8} (ht : ((D a).map smallN).take (min ((D a).map smallN).length ((D b).map smallN).length) = ((D b).map smallN).take (min ((D a).map smallN).length ((D b).map smallN).length)) (h : ((D a).map smallN).length ≠ ((D b).map smallN).length) : lessT a b = decide (((D a).map smallN).length < ((D b).map smallN).length) := by
  obtain ⟨h1, h2⟩ := lessL_short _ _ ht h
  unfold lessT
  rw [if_neg h2, h1]
theorem lessT_same {a b : List UInt8} (ht : ((D a).map smallN).take (min ((D a).map smallN).length ((D b).map smallN).length) = ((D b).map smallN).take (min ((D a).map smallN).length ((D b).map smallN).length)) (h : ((D a).map smallN).length = ((D b).map smallN).length) : lessT a b = Op.bytesLess a b := by
  rw [← h, Nat.min_self, List.take_length] at ht
  rw [h, List.take_length] at ht
  unfold lessT
  rw [if_pos ht]
end Go.Proofs.YtbofkndkgdnbmaaDoor

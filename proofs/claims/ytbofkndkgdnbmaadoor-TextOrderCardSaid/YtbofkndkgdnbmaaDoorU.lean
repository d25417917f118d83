/-
  Own text. Plain Lean: the runes of a list of bytes, the bytes of a list of runes, and that each undoes the other.
-/
import Derived.Laws.RangeAny
import Derived.Lib.RuneBytes
import Derived.Lib.RuneCount
namespace Go.Proofs.YtbofkndkgdnbmaaDoor
open Go

/-- The k-th byte; 0 behind the end. -/
def bt (l : List UInt8) (k : Nat) : Nat := (l.getD k 0).toNat
/-- Does the k-th byte go on? -/
def ct (l : List UInt8) (k : Nat) : Bool := bt l k / 64 == 2
/-- A rune: no half of a pair, none beyond the last. -/
def vr (r : Nat) : Prop := r < 55296 ∨ (57344 ≤ r ∧ r < 1114112)
instance (r : Nat) : Decidable (vr r) := by unfold vr; infer_instance

/-- The first rune, and how many bytes it has. -/
def dc (l : List UInt8) : Nat × Nat :=
  if bt l 0 < 128 then (bt l 0, 1)
  else if bt l 0 / 32 = 6 ∧ ct l 1 = true then
    if 128 ≤ bt l 0 % 32 * 64 + bt l 1 % 64 then (bt l 0 % 32 * 64 + bt l 1 % 64, 2) else (65533, 1)
  else if bt l 0 / 16 = 14 ∧ ct l 1 = true ∧ ct l 2 = true then
    if 2048 ≤ bt l 0 % 16 * 4096 + bt l 1 % 64 * 64 + bt l 2 % 64 ∧ vr (bt l 0 % 16 * 4096 + bt l 1 % 64 * 64 + bt l 2 % 64) then (bt l 0 % 16 * 4096 + bt l 1 % 64 * 64 + bt l 2 % 64, 3) else (65533, 1)
  else if bt l 0 / 8 = 30 ∧ ct l 1 = true ∧ ct l 2 = true ∧ ct l 3 = true then
    if 65536 ≤ bt l 0 % 8 * 262144 + bt l 1 % 64 * 4096 + bt l 2 % 64 * 64 + bt l 3 % 64 ∧ vr (bt l 0 % 8 * 262144 + bt l 1 % 64 * 4096 + bt l 2 % 64 * 64 + bt l 3 % 64) then (bt l 0 % 8 * 262144 + bt l 1 % 64 * 4096 + bt l 2 % 64 * 64 + bt l 3 % 64, 4) else (65533, 1)
  else (65533, 1)

theorem bt_lt (l : List UInt8) (k : Nat) : bt l k < 256 := by unfold bt; exact UInt8.toNat_lt _
theorem bt_out {l : List UInt8} {k : Nat} (h : l.length ≤ k) : bt l k = 0 := by
  unfold bt
  rw [List.getD_eq_getElem?_getD, List.getElem?_eq_none h]
  rfl
theorem ct_in {l : List UInt8} {k : Nat} (h : ct l k = true) : k < l.length := by
  rcases Nat.lt_or_ge k l.length with h1 | h1
  · exact h1
  · unfold ct at h
    rw [bt_out h1] at h
    simp at h

theorem get_bt (s : ByteArray) (i k : Nat) : (s.get! (i + k)).toNat = bt (s.data.toList.drop i) k := by
  unfold bt
  rw [List.getD_eq_getElem?_getD, List.getElem?_drop, Array.getElem?_toList]
  show (s.data[i + k]!).toNat = _
  rw [getElem!_def]
  cases s.data[i + k]? <;> rfl
theorem cont_ct (s : ByteArray) (i k : Nat) : (decide (i + k < s.size) && (s.get! (i + k)).toNat / 64 == 2) = ct (s.data.toList.drop i) k := by
  unfold ct
  rw [get_bt]
  by_cases h : i + k < s.size
  · simp [h]
  · rw [bt_out (by simp; show s.size ≤ _; omega)]
    simp
theorem valid_vr (c : Nat) : Utf8.valid (c : Int) = decide (vr c) := by
  have h : vr c ↔ (0 ≤ (c : Int) ∧ (c : Int) < 55296) ∨ (57344 ≤ (c : Int) ∧ (c : Int) ≤ 1114111) := by
    unfold vr
    omega
  rw [Bool.eq_iff_iff, decide_eq_true_eq, h]
  unfold Utf8.valid
  simp only [Bool.or_eq_true, Bool.and_eq_true, decide_eq_true_eq]
theorem decode_dc (s : ByteArray) (i : Nat) : Utf8.decode s i = dc (s.data.toList.drop i) := by
  have hc := cont_ct s i
  simp only [get_bt] at hc
  unfold Utf8.decode dc
  simp only [get_bt, hc, valid_vr, Utf8.runeError]
  generalize bt (s.data.toList.drop i) 0 = b0
  generalize bt (s.data.toList.drop i) 1 = b1
  generalize bt (s.data.toList.drop i) 2 = b2
  generalize bt (s.data.toList.drop i) 3 = b3
  generalize ct (s.data.toList.drop i) 1 = c1
  generalize ct (s.data.toList.drop i) 2 = c2
  generalize ct (s.data.toList.drop i) 3 = c3
  simp only [Bool.and_eq_true, beq_iff_eq, decide_eq_true_eq, ge_iff_le, and_assoc]

theorem dc_vr (l : List UInt8) : vr (dc l).1 := by
  have h0 := bt_lt l 0
  have h1 := bt_lt l 1
  unfold dc
  repeat' split
  all_goals first | (simp only; first | (rename_i h; exact h.2) | (unfold vr; omega)) | (unfold vr; simp only; omega)
theorem dc_pos (l : List UInt8) : 1 ≤ (dc l).2 := by
  unfold dc
  repeat' split
  all_goals simp
theorem dc_le {l : List UInt8} (h : l ≠ []) : (dc l).2 ≤ l.length := by
  have hl := List.length_pos_iff.2 h
  unfold dc
  split
  · exact hl
  · split
    · rename_i h1
      have := ct_in h1.2
      split <;> simp only <;> omega
    · split
      · rename_i h1
        have := ct_in h1.2.2
        split <;> simp only <;> omega
      · split
        · rename_i h1
          have := ct_in h1.2.2.2
          split <;> simp only <;> omega
        · exact hl

/-- Runes, at most so many. -/
def Dn : Nat → List UInt8 → List Nat
  | 0, _ => []
  | n + 1, l => if l = [] then [] else (dc l).1 :: Dn n (l.drop (dc l).2)
/-- The runes of a text. -/
def D (l : List UInt8) : List Nat := Dn l.length l

theorem Dn_enough : ∀ (n m : Nat) (l : List UInt8), l.length ≤ n → l.length ≤ m → Dn n l = Dn m l := by
  intro n
  induction n with
  | zero =>
    intro m l h _
    have : l = [] := List.eq_nil_of_length_eq_zero (by omega)
    subst this
    cases m <;> simp [Dn]
  | succ n ih =>
    intro m l h1 h2
    by_cases hl : l = []
    · subst hl
      cases m <;> simp [Dn]
    · have hp := List.length_pos_iff.2 hl
      obtain ⟨m, rfl⟩ : ∃ m', m = m' + 1 := ⟨m - 1, by omega⟩
      have hw := dc_pos l
      simp only [Dn, if_neg hl]
      rw [ih m _ (by rw [List.length_drop]; omega) (by rw [List.length_drop]; omega)]
theorem D_nil : D [] = [] := rfl
theorem D_cons {l : List UInt8} (h : l ≠ []) : D l = (dc l).1 :: D (l.drop (dc l).2) := by
  have hp := List.length_pos_iff.2 h
  have hw := dc_pos l
  unfold D
  obtain ⟨n, hn⟩ : ∃ n, l.length = n + 1 := ⟨l.length - 1, by omega⟩
  rw [hn]
  simp only [Dn, if_neg h]
  rw [Dn_enough n _ _ (by rw [List.length_drop]; omega) (Nat.le_refl _)]
theorem D_ind {P : List UInt8 → Prop} (h0 : P []) (h1 : ∀ l, l ≠ [] → P (l.drop (dc l).2) → P l) : ∀ l, P l := by
  intro l
  generalize hn : l.length = n
  induction n using Nat.strongRecOn generalizing l with
  | ind n ih =>
    by_cases hl : l = []
    · subst hl; exact h0
    · have hp := List.length_pos_iff.2 hl
      have hw := dc_pos l
      exact h1 l hl (ih _ (by rw [List.length_drop]; omega) _ rfl)
theorem D_vr : ∀ l, ∀ r ∈ D l, vr r := by
  refine D_ind (by simp [D_nil]) fun l hl ih r hr => ?_
  rw [D_cons hl] at hr
  rcases List.mem_cons.1 hr with rfl | h
  · exact dc_vr l
  · exact ih r h
theorem D_len : ∀ l, (D l).length ≤ l.length := by
  refine D_ind (by simp [D_nil]) fun l hl ih => ?_
  have hp := List.length_pos_iff.2 hl
  have hw := dc_pos l
  rw [D_cons hl, List.length_cons]
  rw [List.length_drop] at ih
  omega
theorem D_pos {l : List UInt8} (h : l ≠ []) : 0 < (D l).length := by rw [D_cons h]; simp

/-- A rune's bytes. -/
def encN (r : Nat) : List UInt8 := Lib.encodeRune (r : Int)
/-- The bytes of runes. -/
def E (rs : List Nat) : List UInt8 := rs.flatMap encN
theorem E_nil : E [] = [] := rfl
theorem E_cons (r : Nat) (rs : List Nat) : E (r :: rs) = encN r ++ E rs := List.flatMap_cons
theorem E_append (a b : List Nat) : E (a ++ b) = E a ++ E b := List.flatMap_append
theorem E_snoc (a : List Nat) (r : Nat) : E (a ++ [r]) = E a ++ encN r := by rw [E_append, E_cons, E_nil, List.append_nil]
theorem enc_len (r : Nat) : 1 ≤ (encN r).length ∧ (encN r).length ≤ 4 := by
  have := Lib.encodeRuneZ_length (r : Int)
  simpa [encN, Lib.encodeRune] using this
theorem E_len (rs : List Nat) : rs.length ≤ (E rs).length ∧ (E rs).length ≤ 4 * rs.length := by
  induction rs with
  | nil => simp [E_nil]
  | cons r rs ih =>
    have := enc_len r
    rw [E_cons, List.length_append, List.length_cons]
    omega
theorem E_ne {rs : List Nat} : E rs = [] ↔ rs = [] := by
  constructor
  · intro h
    have h1 := (E_len rs).1
    rw [h] at h1
    exact List.eq_nil_of_length_eq_zero (by simpa using h1)
  · rintro rfl; rfl

theorem enc_ascii {r : Nat} (h : r < 128) : encN r = [UInt8.ofNat r] := by
  unfold encN Lib.encodeRune
  rw [Lib.encodeRuneZ_one (by omega) (by omega)]
  rfl
theorem enc_two {r : Nat} (h0 : 128 ≤ r) (h1 : r < 2048) : encN r = [UInt8.ofNat (192 + r / 64), UInt8.ofNat (128 + r % 64)] := by
  unfold encN Lib.encodeRune
  rw [Lib.encodeRuneZ_two (by omega) (by omega)]
  rfl
theorem enc_three {r : Nat} (h0 : 2048 ≤ r) (h1 : r < 65536) (hv : vr r) : encN r = [UInt8.ofNat (224 + r / 4096), UInt8.ofNat (128 + r / 64 % 64), UInt8.ofNat (128 + r % 64)] := by
  unfold encN Lib.encodeRune
  rw [Lib.encodeRuneZ_three (by unfold vr at hv; omega)]
  rfl
theorem enc_four {r : Nat} (h0 : 65536 ≤ r) (hv : vr r) : encN r = [UInt8.ofNat (240 + r / 262144), UInt8.ofNat (128 + r / 4096 % 64), UInt8.ofNat (128 + r / 64 % 64), UInt8.ofNat (128 + r % 64)] := by
  unfold encN Lib.encodeRune
  rw [Lib.encodeRuneZ_four (by omega) (by unfold vr at hv; omega)]
  rfl
theorem ofNat_byte {n : Nat} (h : n < 256) : (UInt8.ofNat n).toNat = n := by
  rw [UInt8.toNat_ofNat']; omega

theorem dc_enc {r : Nat} (hv : vr r) (l : List UInt8) : dc (encN r ++ l) = (r, (encN r).length) := by
  by_cases h1 : r < 128
  · rw [enc_ascii h1]
    have b0 : bt ([UInt8.ofNat r] ++ l) 0 = r := by simp [bt]; omega
    unfold dc
    rw [b0, if_pos h1]
    rfl
  · by_cases h2 : r < 2048
    · rw [enc_two (by omega) h2]
      have b0 : bt ([UInt8.ofNat (192 + r / 64), UInt8.ofNat (128 + r % 64)] ++ l) 0 = 192 + r / 64 := by simp [bt]; omega
      have b1 : bt ([UInt8.ofNat (192 + r / 64), UInt8.ofNat (128 + r % 64)] ++ l) 1 = 128 + r % 64 := by simp [bt]; omega
      have c1 : ct ([UInt8.ofNat (192 + r / 64), UInt8.ofNat (128 + r % 64)] ++ l) 1 = true := by unfold ct; rw [b1]; simp; omega
      unfold dc
      rw [b0, b1, c1, if_neg (by omega), if_pos ⟨by omega, rfl⟩, if_pos (by omega)]
      simp
      omega
    · by_cases h3 : r < 65536
      · rw [enc_three (by omega) h3 hv]
        have b0 : bt ([UInt8.ofNat (224 + r / 4096), UInt8.ofNat (128 + r / 64 % 64), UInt8.ofNat (128 + r % 64)] ++ l) 0 = 224 + r / 4096 := by simp [bt]; omega
        have b1 : bt ([UInt8.ofNat (224 + r / 4096), UInt8.ofNat (128 + r / 64 % 64), UInt8.ofNat (128 + r % 64)] ++ l) 1 = 128 + r / 64 % 64 := by simp [bt]; omega
        have b2 : bt ([UInt8.ofNat (224 + r / 4096), UInt8.ofNat (128 + r / 64 % 64), UInt8.ofNat (128 + r % 64)] ++ l) 2 = 128 + r % 64 := by simp [bt]; omega
        have c1 : ct ([UInt8.ofNat (224 + r / 4096), UInt8.ofNat (128 + r / 64 % 64), UInt8.ofNat (128 + r % 64)] ++ l) 1 = true := by unfold ct; rw [b1]; simp; omega
        have c2 : ct ([UInt8.ofNat (224 + r / 4096), UInt8.ofNat (128 + r / 64 % 64), UInt8.ofNat (128 + r % 64)] ++ l) 2 = true := by unfold ct; rw [b2]; simp; omega
        have e : (224 + r / 4096) % 16 * 4096 + (128 + r / 64 % 64) % 64 * 64 + (128 + r % 64) % 64 = r := by omega
        unfold dc
        rw [b0, b1, b2, c1, c2, if_neg (by omega), if_neg (by omega), if_pos ⟨by omega, rfl, rfl⟩, e, if_pos ⟨by omega, hv⟩]
        rfl
      · rw [enc_four (by omega) hv]
        have hv' := hv
        unfold vr at hv'
        have b0 : bt ([UInt8.ofNat (240 + r / 262144), UInt8.ofNat (128 + r / 4096 % 64), UInt8.ofNat (128 + r / 64 % 64), UInt8.ofNat (128 + r % 64)] ++ l) 0 = 240 + r / 262144 := by simp [bt]; omega
        have b1 : bt ([UInt8.ofNat (240 + r / 262144), UInt8.ofNat (128 + r / 4096 % 64), UInt8.ofNat (128 + r / 64 % 64), UInt8.ofNat (128 + r % 64)] ++ l) 1 = 128 + r / 4096 % 64 := by simp [bt]; omega
        have b2 : bt ([UInt8.ofNat (240 + r / 262144), UInt8.ofNat (128 + r / 4096 % 64), UInt8.ofNat (128 + r / 64 % 64), UInt8.ofNat (128 + r % 64)] ++ l) 2 = 128 + r / 64 % 64 := by simp [bt]; omega
        have b3 : bt ([UInt8.ofNat (240 + r / 262144), UInt8.ofNat (128 + r / 4096 % 64), UInt8.ofNat (128 + r / 64 % 64), UInt8.ofNat (128 + r % 64)] ++ l) 3 = 128 + r % 64 := by simp [bt]; omega
        have c1 : ct ([UInt8.ofNat (240 + r / 262144), UInt8.ofNat (128 + r / 4096 % 64), UInt8.ofNat (128 + r / 64 % 64), UInt8.ofNat (128 + r % 64)] ++ l) 1 = true := by unfold ct; rw [b1]; simp; omega
        have c2 : ct ([UInt8.ofNat (240 + r / 262144), UInt8.ofNat (128 + r / 4096 % 64), UInt8.ofNat (128 + r / 64 % 64), UInt8.ofNat (128 + r % 64)] ++ l) 2 = true := by unfold ct; rw [b2]; simp; omega
        have c3 : ct ([UInt8.ofNat (240 + r / 262144), UInt8.ofNat (128 + r / 4096 % 64), UInt8.ofNat (128 + r / 64 % 64), UInt8.ofNat (128 + r % 64)] ++ l) 3 = true := by unfold ct; rw [b3]; simp; omega
        have e : (240 + r / 262144) % 8 * 262144 + (128 + r / 4096 % 64) % 64 * 4096 + (128 + r / 64 % 64) % 64 * 64 + (128 + r % 64) % 64 = r := by omega
        unfold dc
        rw [b0, b1, b2, b3, c1, c2, c3, if_neg (by omega), if_neg (by omega), if_neg (by omega), if_pos ⟨by omega, rfl, rfl, rfl⟩, e, if_pos ⟨by omega, hv⟩]
        rfl

/-- Runes, then bytes, then runes. -/
theorem D_E {rs : List Nat} (h : ∀ r ∈ rs, vr r) : D (E rs) = rs := by
  induction rs with
  | nil => rfl
  | cons r rs ih =>
    have hne : encN r ++ E rs ≠ [] := by
      have := enc_len r
      intro h
      have h2 := congrArg List.length h
      rw [List.length_append, List.length_nil] at h2
      omega
    rw [E_cons, D_cons hne, dc_enc (h r (by simp))]
    simp only [List.drop_left]
    rw [ih fun x hx => h x (by simp [hx])]
theorem D_E_append {rs : List Nat} (h : ∀ r ∈ rs, vr r) (l : List UInt8) : D (E rs ++ l) = rs ++ D l := by
  induction rs with
  | nil => rfl
  | cons r rs ih =>
    have hne : encN r ++ E rs ++ l ≠ [] := by
      have := enc_len r
      intro h
      have h2 := congrArg List.length h
      rw [List.length_append, List.length_append, List.length_nil] at h2
      omega
    rw [E_cons, D_cons hne, List.append_assoc, dc_enc (h r (by simp))]
    simp only [List.drop_left]
    rw [ih fun x hx => h x (by simp [hx])]
    rfl

/-- A byte that does not go on ends what stands ahead of it. -/
theorem bt_app {a : List UInt8} (k : Nat) (h : k < a.length) (b : List UInt8) : bt (a ++ b) k = bt a k := by
  unfold bt
  rw [List.getD_eq_getElem?_getD, List.getD_eq_getElem?_getD, List.getElem?_append_left h]
theorem ct_app {a : List UInt8} {x : UInt8} (hx : (x.toNat / 64 == 2) = false) (b : List UInt8) (k : Nat) (h : k ≤ a.length) : ct (a ++ x :: b) k = ct a k := by
  unfold ct
  rcases Nat.lt_or_ge k a.length with h1 | h1
  · rw [bt_app k h1]
  · obtain rfl : k = a.length := by omega
    rw [bt_out (Nat.le_refl a.length)]
    have : bt (a ++ x :: b) a.length = x.toNat := by unfold bt; simp
    rw [this, hx]
    rfl
theorem dc_app {a : List UInt8} (ha : a ≠ []) {x : UInt8} (hx : (x.toNat / 64 == 2) = false) (b : List UInt8) : dc (a ++ x :: b) = dc a := by
  have hp := List.length_pos_iff.2 ha
  have e0 : bt (a ++ x :: b) 0 = bt a 0 := bt_app 0 hp _
  have c1 : ct (a ++ x :: b) 1 = ct a 1 := ct_app hx b 1 hp
  by_cases h1 : ct a 1 = true
  · have l1 := ct_in h1
    have e1 : bt (a ++ x :: b) 1 = bt a 1 := bt_app 1 l1 _
    have c2 : ct (a ++ x :: b) 2 = ct a 2 := ct_app hx b 2 l1
    by_cases h2 : ct a 2 = true
    · have l2 := ct_in h2
      have e2 : bt (a ++ x :: b) 2 = bt a 2 := bt_app 2 l2 _
      have c3 : ct (a ++ x :: b) 3 = ct a 3 := ct_app hx b 3 l2
      by_cases h3 : ct a 3 = true
      · have e3 : bt (a ++ x :: b) 3 = bt a 3 := bt_app 3 (ct_in h3) _
        unfold dc
        rw [e0, e1, e2, e3, c1, c2, c3]
      · unfold dc
        rw [e0, e1, e2, c1, c2, c3]
        simp [h3]
    · unfold dc
      rw [e0, e1, c1, c2]
      simp [h2]
  · unfold dc
    rw [e0, c1]
    simp [h1]
theorem D_app {x : UInt8} (hx : (x.toNat / 64 == 2) = false) (b : List UInt8) : ∀ a, D (a ++ x :: b) = D a ++ D (x :: b) := by
  refine D_ind (by simp [D_nil]) fun a ha ih => ?_
  have hl := dc_le ha
  rw [D_cons (l := a ++ x :: b) (by simp), dc_app ha hx, List.drop_append_of_le_length hl, ih, D_cons ha]
  rfl
theorem D_ascii {x : UInt8} (hx : x.toNat < 128) (b : List UInt8) : D (x :: b) = x.toNat :: D b := by
  have h0 : bt (x :: b) 0 = x.toNat := rfl
  have : dc (x :: b) = (x.toNat, 1) := by unfold dc; rw [h0, if_pos hx]
  rw [D_cons (by simp), this]
  rfl
theorem D_blank (a b : List UInt8) : D (a ++ 32 :: b) = D a ++ 32 :: D b := by
  rw [D_app (by decide), D_ascii (by decide)]
  rfl
end Go.Proofs.YtbofkndkgdnbmaaDoor

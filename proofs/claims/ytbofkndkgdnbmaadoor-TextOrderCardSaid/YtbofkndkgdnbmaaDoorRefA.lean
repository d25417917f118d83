/-
  Own text. The walk over the document's next rune.
-/
import Derived.Test.YtbofkndkgdnbmaaDoorTextB
import Derived.Deep.LoopGhost
namespace Go.Proofs.YtbofkndkgdnbmaaDoor
open Go.RowKit

theorem and_i64 (k : Nat) (hk : k < 63) (b : Int) : bits BinOp.and IntKind.i64 b ((2 ^ k - 1 : Nat) : Int) = b % (2 ^ k : Nat) := by
  show IntKind.i64.wrap ((BitVec.ofInt 64 b &&& BitVec.ofInt 64 ((2 ^ k - 1 : Nat) : Int)).toNat : Int) = _
  have hp : 2 ^ k ≤ 2 ^ 62 := Nat.pow_le_pow_right (by omega) (by omega)
  have hp0 : 0 < 2 ^ k := Nat.pow_pos (by omega)
  have hd : (2 ^ k : Nat) ∣ 2 ^ 64 := Nat.pow_dvd_pow 2 (by omega)
  have h1 : (BitVec.ofInt 64 ((2 ^ k - 1 : Nat) : Int)).toNat = 2 ^ k - 1 := by
    rw [BitVec.toNat_ofInt]
    have : ((2 ^ k - 1 : Nat) : Int) % (2 ^ 64 : Nat) = ((2 ^ k - 1 : Nat) : Int) := Int.emod_eq_of_lt (by omega) (by omega)
    rw [this]
    rfl
  have h2 : (BitVec.ofInt 64 b).toNat % 2 ^ k = (b % (2 ^ k : Nat)).toNat := by
    rw [BitVec.toNat_ofInt]
    have h3 : (((b % (2 ^ 64 : Nat)).toNat % 2 ^ k : Nat) : Int) = ((b % (2 ^ k : Nat)).toNat : Int) := by
      have e1 : 0 ≤ b % (2 ^ 64 : Nat) := Int.emod_nonneg _ (by omega)
      have e2 : 0 ≤ b % (2 ^ k : Nat) := Int.emod_nonneg _ (by omega)
      rw [Int.natCast_emod, Int.toNat_of_nonneg e1, Int.toNat_of_nonneg e2]
      exact Int.emod_emod_of_dvd b (Int.natCast_dvd_natCast.2 hd)
    exact Int.ofNat.inj h3
  have h : (BitVec.ofInt 64 b &&& BitVec.ofInt 64 ((2 ^ k - 1 : Nat) : Int)).toNat = (b % (2 ^ k : Nat)).toNat := by
    rw [BitVec.toNat_and, h1, Nat.and_two_pow_sub_one_eq_mod, h2]
  have e2 : 0 ≤ b % (2 ^ k : Nat) := Int.emod_nonneg _ (by omega)
  have e3 : b % (2 ^ k : Nat) < (2 ^ k : Nat) := Int.emod_lt_of_pos _ (by omega)
  rw [h, Int.toNat_of_nonneg e2]
  exact IntWalk.i64_in _ (by omega)
theorem and_31 (b : Int) : bits BinOp.and IntKind.i64 b 31 = b % 32 := and_i64 5 (by omega) b
theorem and_15 (b : Int) : bits BinOp.and IntKind.i64 b 15 = b % 16 := and_i64 4 (by omega) b
theorem and_7 (b : Int) : bits BinOp.and IntKind.i64 b 7 = b % 8 := and_i64 3 (by omega) b
theorem and_63 (b : Int) : bits BinOp.and IntKind.i64 b 63 = b % 64 := and_i64 6 (by omega) b
theorem or_64 (c x : Nat) (hc : c < 1048576) (hx : x < 64) : bits BinOp.or IntKind.i64 ((c * 64 : Nat) : Int) (x : Int) = ((c * 64 + x : Nat) : Int) := by
  show IntKind.i64.wrap ((BitVec.ofInt 64 ((c * 64 : Nat) : Int) ||| BitVec.ofInt 64 (x : Int)).toNat : Int) = _
  have h : (BitVec.ofInt 64 ((c * 64 : Nat) : Int) ||| BitVec.ofInt 64 (x : Int)).toNat = c * 64 + x := by
    rw [BitVec.toNat_or, BitVec.toNat_ofInt, BitVec.toNat_ofInt]
    have e1 : (((c * 64 : Nat) : Int) % (2 ^ 64 : Nat)).toNat = 2 ^ 6 * c := by omega
    have e2 : ((x : Int) % (2 ^ 64 : Nat)).toNat = x := by omega
    rw [e1, e2, ← Nat.two_pow_add_eq_or_of_lt (i := 6) (by omega)]
    omega
  rw [h]
  exact IntWalk.i64_in _ (by omega)

/-- The value behind k bytes more. -/
def cv (l : List UInt8) (c0 : Nat) : Nat → Nat
  | 0 => c0
  | k + 1 => cv l c0 k * 64 + bt l (k + 1) % 64

/-- A first byte that wants n more. -/
def Multi (l : List UInt8) (n least c0 : Nat) : Prop :=
  (n = 1 ∧ 192 ≤ bt l 0 ∧ bt l 0 < 224 ∧ least = 128 ∧ c0 = bt l 0 % 32) ∨ (n = 2 ∧ 224 ≤ bt l 0 ∧ bt l 0 < 240 ∧ least = 2048 ∧ c0 = bt l 0 % 16) ∨ (n = 3 ∧ 240 ≤ bt l 0 ∧ bt l 0 < 248 ∧ least = 65536 ∧ c0 = bt l 0 % 8)
/-- The next k bytes go on. -/
def Goes (l : List UInt8) (k : Nat) : Prop := ∀ m, 1 ≤ m → m ≤ k → ct l m = true
theorem Goes.succ {l : List UInt8} {k : Nat} (h : Goes l k) (hc : ct l (k + 1) = true) : Goes l (k + 1) := fun m h1 h2 => by
  rcases Nat.lt_or_ge m (k + 1) with h3 | h3
  · exact h m h1 (by omega)
  · obtain rfl : m = k + 1 := by omega
    exact hc
/-- The call tells the first rune of l, and how many bytes it has. -/
def NextSays (l : List UInt8) (w : World) (e : Ending) (w' : World) : Prop := e = .returned (.tuple #[.int .i64 ((dc l).1 : Int), .int .i64 ((dc l).2 : Int)]) ∧ w = w'

theorem byte_at (s : ByteArray) (p k : Nat) (h : p + k < s.size) : (s[p + k]'h).toNat = bt (s.data.toList.drop p) k := by
  unfold bt
  rw [List.getD_eq_getElem?_getD, List.getElem?_drop, Array.getElem?_toList, Array.getElem?_eq_getElem h]
  rfl
theorem ct_byte {s : ByteArray} {p k : Nat} {l : List UInt8} (hl : s.data.toList.drop p = l) (h : ct l k = true) : ∃ hin : p + k < s.size, (s[p + k]'hin).toNat = bt l k ∧ (128 : Int) ≤ ((s[p + k]'hin).toNat : Int) ∧ ((s[p + k]'hin).toNat : Int) < 192 := by
  have hin : p + k < s.size := by
    have h1 := ct_in h
    rw [← hl, List.length_drop, Array.length_toList] at h1
    show p + k < s.data.size
    omega
  have hb := byte_at s p k hin
  rw [hl] at hb
  unfold ct at h
  rw [beq_iff_eq] at h
  exact ⟨hin, hb, by omega, by omega⟩
theorem ct_no {l : List UInt8} {k : Nat} (h : ¬ ct l k = true) : bt l k < 128 ∨ 192 ≤ bt l k := by
  unfold ct at h
  rw [beq_iff_eq] at h
  omega
theorem cv_lt {l : List UInt8} {n least c0 k : Nat} (h : Multi l n least c0) (hk : k ≤ n) : cv l c0 k < 2097152 := by
  have h1 : bt l 1 % 64 < 64 := Nat.mod_lt _ (by omega)
  have h2 : bt l 2 % 64 < 64 := Nat.mod_lt _ (by omega)
  have h3 : bt l 3 % 64 < 64 := Nat.mod_lt _ (by omega)
  unfold Multi at h
  match k, hk with
  | 0, _ => simp only [cv]; omega
  | 1, _ => simp only [cv]; omega
  | 2, _ => simp only [cv]; omega
  | 3, _ => simp only [cv]; omega
  | k + 4, hk => omega
theorem cv_lt' {l : List UInt8} {n least c0 k : Nat} (h : Multi l n least c0) (hk : k < n) : cv l c0 k < 1048576 := by
  have h1 : bt l 1 % 64 < 64 := Nat.mod_lt _ (by omega)
  have h2 : bt l 2 % 64 < 64 := Nat.mod_lt _ (by omega)
  have h3 : bt l 3 % 64 < 64 := Nat.mod_lt _ (by omega)
  unfold Multi at h
  match k, hk with
  | 0, _ => simp only [cv]; omega
  | 1, _ => simp only [cv]; omega
  | 2, _ => simp only [cv]; omega
  | k + 3, hk => omega
theorem dc_short {l : List UInt8} {n least c0 k : Nat} (h : Multi l n least c0) (hk : k < n) (hg : Goes l k) (hc : ¬ ct l (k + 1) = true) : dc l = (65533, 1) := by
  unfold Multi at h
  unfold dc
  rcases h with ⟨rfl, h1, h2, _, _⟩ | ⟨rfl, h1, h2, _, _⟩ | ⟨rfl, h1, h2, _, _⟩
  · obtain rfl : k = 0 := by omega
    rw [if_neg (by omega), if_neg (fun e => hc e.2), if_neg (by omega), if_neg (by omega)]
  · rw [if_neg (by omega), if_neg (by omega), if_neg, if_neg (by omega)]
    rintro ⟨_, e1, e2⟩
    rcases (show k = 0 ∨ k = 1 by omega) with rfl | rfl
    · exact hc e1
    · exact hc e2
  · rw [if_neg (by omega), if_neg (by omega), if_neg (by omega), if_neg]
    rintro ⟨_, e1, e2, e3⟩
    rcases (show k = 0 ∨ k = 1 ∨ k = 2 by omega) with rfl | rfl | rfl
    · exact hc e1
    · exact hc e2
    · exact hc e3
theorem dc_full {l : List UInt8} {n least c0 : Nat} (h : Multi l n least c0) (hg : Goes l n) : dc l = if least ≤ cv l c0 n ∧ vr (cv l c0 n) then (cv l c0 n, n + 1) else (65533, 1) := by
  have hM := h
  unfold Multi at h
  have h64 : bt l 1 % 64 < 64 := Nat.mod_lt _ (by omega)
  have h642 : bt l 2 % 64 < 64 := Nat.mod_lt _ (by omega)
  unfold dc
  rcases h with ⟨rfl, h1, h2, rfl, rfl⟩ | ⟨rfl, h1, h2, rfl, rfl⟩ | ⟨rfl, h1, h2, rfl, rfl⟩
  · rw [if_neg (by omega), if_pos ⟨by omega, hg 1 (by omega) (by omega)⟩]
    have e : bt l 0 % 32 * 64 + bt l 1 % 64 = cv l (bt l 0 % 32) 1 := rfl
    have hlt : cv l (bt l 0 % 32) 1 < 2048 := by rw [← e]; omega
    rw [e]
    by_cases hl : 128 ≤ cv l (bt l 0 % 32) 1
    · rw [if_pos hl, if_pos ⟨hl, by unfold vr; omega⟩]
    · rw [if_neg hl, if_neg fun e => hl e.1]
  · rw [if_neg (by omega), if_neg (by omega), if_pos ⟨by omega, hg 1 (by omega) (by omega), hg 2 (by omega) (by omega)⟩]
    have e : bt l 0 % 16 * 4096 + bt l 1 % 64 * 64 + bt l 2 % 64 = cv l (bt l 0 % 16) 2 := by simp only [cv, Nat.reduceAdd]; omega
    rw [e]
  · rw [if_neg (by omega), if_neg (by omega), if_neg (by omega), if_pos ⟨by omega, hg 1 (by omega) (by omega), hg 2 (by omega) (by omega), hg 3 (by omega) (by omega)⟩]
    have e : bt l 0 % 8 * 262144 + bt l 1 % 64 * 4096 + bt l 2 % 64 * 64 + bt l 3 % 64 = cv l (bt l 0 % 8) 3 := by simp only [cv, Nat.reduceAdd]; omega
    rw [e]
theorem or_step (l : List UInt8) (c0 k : Nat) (h : cv l c0 k < 1048576) : bits BinOp.or IntKind.i64 ((cv l c0 k : Int) * 64) (((bt l (k + 1) : Nat) : Int) % 64) = ((cv l c0 (k + 1) : Nat) : Int) := by
  exact or_64 _ _ h (Nat.mod_lt _ (by omega))
theorem dc_ascii {l : List UInt8} (h : bt l 0 < 128) : dc l = (bt l 0, 1) := by unfold dc; rw [if_pos h]
theorem dc_bad {l : List UInt8} (h : 128 ≤ bt l 0) (h' : bt l 0 < 192 ∨ 248 ≤ bt l 0) : dc l = (65533, 1) := by
  have := bt_lt l 0
  unfold dc
  rw [if_neg (by omega), if_neg (by omega), if_neg (by omega), if_neg (by omega)]

end Go.Proofs.YtbofkndkgdnbmaaDoor

/-
  Own text. Plain Lean: which runes are white, bare, letters; the small form; clean runes.
-/
import Derived.Test.YtbofkndkgdnbmaaDoorU
namespace Go.Proofs.YtbofkndkgdnbmaaDoor

def whiteN (r : Nat) : Bool := decide ((9 ≤ r ∧ r ≤ 13) ∨ r = 32 ∨ r = 133 ∨ r = 160 ∨ r = 5760 ∨ (8192 ≤ r ∧ r ≤ 8202) ∨ r = 8232 ∨ r = 8233 ∨ r = 8239 ∨ r = 8287 ∨ r = 12288)
def bareN (r : Nat) : Bool := decide (r < 32 ∨ (127 ≤ r ∧ r ≤ 159)) && !whiteN r
def letterN (r : Nat) : Bool :=
  if r < 128 then decide ((97 ≤ r ∧ r ≤ 122) ∨ (65 ≤ r ∧ r ≤ 90) ∨ (48 ≤ r ∧ r ≤ 57))
  else decide (192 ≤ r ∧ r ≠ 215 ∧ r ≠ 247 ∧ r ≠ 65533 ∧ (r < 8192 ∨ 8303 < r)) && !whiteN r
def smallN (r : Nat) : Nat :=
  if (65 ≤ r ∧ r ≤ 90) ∨ (192 ≤ r ∧ r ≤ 222 ∧ r ≠ 215) ∨ (913 ≤ r ∧ r ≤ 939 ∧ r ≠ 930) ∨ (1040 ≤ r ∧ r ≤ 1071) then r + 32
  else if 1024 ≤ r ∧ r ≤ 1039 then r + 80 else r

theorem small_cases (r : Nat) : (smallN r = r ∧ ¬ ((65 ≤ r ∧ r ≤ 90) ∨ (192 ≤ r ∧ r ≤ 222 ∧ r ≠ 215) ∨ (913 ≤ r ∧ r ≤ 939 ∧ r ≠ 930) ∨ (1040 ≤ r ∧ r ≤ 1071)) ∧ ¬ (1024 ≤ r ∧ r ≤ 1039)) ∨ (smallN r = r + 32 ∧ ((65 ≤ r ∧ r ≤ 90) ∨ (192 ≤ r ∧ r ≤ 222 ∧ r ≠ 215) ∨ (913 ≤ r ∧ r ≤ 939 ∧ r ≠ 930) ∨ (1040 ≤ r ∧ r ≤ 1071))) ∨ (smallN r = r + 80 ∧ 1024 ≤ r ∧ r ≤ 1039) := by
  unfold smallN
  split
  · rename_i h
    exact .inr (.inl ⟨rfl, h⟩)
  · split
    · rename_i h
      exact .inr (.inr ⟨rfl, h⟩)
    · rename_i h1 h2
      exact .inl ⟨rfl, h1, h2⟩
theorem small_small (r : Nat) : smallN (smallN r) = smallN r := by
  have h := small_cases r
  have h2 := small_cases (smallN r)
  omega
theorem small_vr {r : Nat} (h : vr r) : vr (smallN r) := by
  have h1 := small_cases r
  unfold vr at h ⊢
  omega
theorem small_white (r : Nat) : whiteN (smallN r) = whiteN r := by
  have h := small_cases r
  unfold whiteN
  rw [decide_eq_decide]
  omega
theorem small_bare (r : Nat) : bareN (smallN r) = bareN r := by
  have h := small_cases r
  unfold bareN
  rw [small_white]
  congr 1
  rw [decide_eq_decide]
  omega
theorem small_32 (r : Nat) : smallN r = 32 ↔ r = 32 := by
  have h := small_cases r
  omega

/-- One rune more: what is kept, and whether white runes have come behind it. -/
def stepC (a : List Nat × Bool) (r : Nat) : List Nat × Bool :=
  if whiteN r = true then (a.1, true) else if bareN r = true then a else ((if a.2 = true ∧ a.1 ≠ [] then a.1 ++ [32] else a.1) ++ [r], false)
def runC (a : List Nat × Bool) (rs : List Nat) : List Nat × Bool := rs.foldl stepC a
/-- The clean runes. -/
def cleanR (rs : List Nat) : List Nat := (runC ([], false) rs).1

theorem runC_snoc (a : List Nat × Bool) (rs : List Nat) (r : Nat) : runC a (rs ++ [r]) = stepC (runC a rs) r := by simp [runC, List.foldl_append]
theorem runC_append (a : List Nat × Bool) (x y : List Nat) : runC a (x ++ y) = runC (runC a x) y := by simp [runC, List.foldl_append]
theorem white_32 : whiteN 32 = true := by decide
theorem bare_32 : bareN 32 = false := by decide

/-- No white rune but single blanks between others; no bare one. -/
structure Good (l : List Nat) : Prop where
  each : ∀ r ∈ l, bareN r = false ∧ (whiteN r = true → r = 32)
  head : l.head? ≠ some 32
  last : l.getLast? ≠ some 32
  two : ∀ i, l[i]? = some 32 → l[i + 1]? ≠ some 32

/-- The same, but for a blank at the end. -/
structure Half (l : List Nat) : Prop where
  each : ∀ r ∈ l, bareN r = false ∧ (whiteN r = true → r = 32)
  head : l.head? ≠ some 32
  two : ∀ i, l[i]? = some 32 → l[i + 1]? ≠ some 32

theorem Good.half {l : List Nat} (h : Good l) : Half l := ⟨h.each, h.head, h.two⟩
theorem Good.nil : Good [] := ⟨by simp, by simp, by simp, by simp⟩

theorem good_white {l : List Nat} (h : Half l) {r : Nat} (hr : r ∈ l) : whiteN r = true ↔ r = 32 := ⟨(h.each r hr).2, fun e => e ▸ white_32⟩

theorem get_snoc {l : List Nat} {r : Nat} {i : Nat} {x : Nat} : (l ++ [r])[i]? = some x ↔ l[i]? = some x ∨ (i = l.length ∧ x = r) := by
  rcases Nat.lt_trichotomy i l.length with h | h | h
  · rw [List.getElem?_append_left h]
    constructor
    · exact .inl
    · rintro (h1 | ⟨h1, _⟩)
      · exact h1
      · omega
  · subst h
    rw [List.getElem?_append_right (Nat.le_refl _), Nat.sub_self, List.getElem?_eq_none (Nat.le_refl _)]
    simp [eq_comm]
  · rw [List.getElem?_eq_none (by simp; omega), List.getElem?_eq_none (by omega)]
    simp
    omega

/-- One more rune that is not a blank. -/
theorem Half.snoc {l : List Nat} (h : Half l) {r : Nat} (hb : bareN r = false) (hw : whiteN r = false) : Good (l ++ [r]) := by
  have hr : r ≠ 32 := fun e => by rw [e, white_32] at hw; cases hw
  refine ⟨fun x hx => ?_, ?_, ?_, fun i hi => ?_⟩
  · rcases List.mem_append.1 hx with hx | hx
    · exact h.each x hx
    · rw [List.mem_singleton] at hx
      subst hx
      exact ⟨hb, fun e => by rw [hw] at e; cases e⟩
  · cases l with
    | nil => simpa using hr
    | cons a l => simpa using h.head
  · simpa using hr
  · rw [get_snoc] at hi
    intro hi2
    rw [get_snoc] at hi2
    rcases hi2 with hi2 | ⟨_, hi2⟩
    · rcases hi with hi | ⟨hi, _⟩
      · exact h.two i hi hi2
      · rw [hi, List.getElem?_eq_none (by omega)] at hi2
        cases hi2
    · exact hr hi2.symm
/-- A blank behind a text that ends otherwise. -/
theorem Good.blank {l : List Nat} (h : Good l) (hne : l ≠ []) : Half (l ++ [32]) := by
  refine ⟨fun x hx => ?_, ?_, fun i hi hi2 => ?_⟩
  · rcases List.mem_append.1 hx with hx | hx
    · exact h.each x hx
    · rw [List.mem_singleton] at hx
      subst hx
      exact ⟨bare_32, fun _ => rfl⟩
  · cases l with
    | nil => exact absurd rfl hne
    | cons a l => simpa using h.head
  · rw [get_snoc] at hi hi2
    rcases hi2 with hi2 | ⟨hi2, _⟩
    · rcases hi with hi | ⟨hi, _⟩
      · exact h.two i hi hi2
      · rw [hi, List.getElem?_eq_none (by omega)] at hi2
        cases hi2
    · rcases hi with hi | ⟨hi, _⟩
      · have hl := List.getLast?_eq_getElem? (l := l)
        rw [show l.length - 1 = i from by omega, hi] at hl
        exact h.last hl
      · omega
theorem stepC_good {a : List Nat × Bool} (h : Good a.1) (r : Nat) : Good (stepC a r).1 := by
  unfold stepC
  by_cases hw : whiteN r = true
  · rw [if_pos hw]
    exact h
  · rw [if_neg hw]
    by_cases hb : bareN r = true
    · rw [if_pos hb]
      exact h
    · rw [if_neg hb]
      have hw' : whiteN r = false := by simpa using hw
      have hb' : bareN r = false := by simpa using hb
      by_cases hg : a.2 = true ∧ a.1 ≠ []
      · simp only [if_pos hg]
        exact (h.blank hg.2).snoc hb' hw'
      · simp only [if_neg hg]
        exact h.half.snoc hb' hw'
theorem runC_good (rs : List Nat) : ∀ a : List Nat × Bool, Good a.1 → Good (runC a rs).1 := by
  induction rs with
  | nil => exact fun a h => h
  | cons r rs ih => exact fun a h => ih _ (stepC_good h r)
theorem clean_good (rs : List Nat) : Good (cleanR rs) := runC_good rs _ Good.nil

theorem Half.take {l : List Nat} (h : Half l) (n : Nat) : Half (l.take n) := by
  refine ⟨fun r hr => h.each r (List.mem_of_mem_take hr), ?_, fun i hi hi2 => ?_⟩
  · cases l with
    | nil => simp
    | cons a l =>
      cases n with
      | zero => simp
      | succ n => simpa using h.head
  · have h1 : i < n := by
      rcases Nat.lt_or_ge i n with h1 | h1
      · exact h1
      · rw [List.getElem?_take_eq_none h1] at hi
        cases hi
    have h2 : i + 1 < n := by
      rcases Nat.lt_or_ge (i + 1) n with h1 | h1
      · exact h1
      · rw [List.getElem?_take_eq_none h1] at hi2
        cases hi2
    rw [List.getElem?_take_of_lt h1] at hi
    rw [List.getElem?_take_of_lt h2] at hi2
    exact h.two i hi hi2

/-- A text that was begun to be read: all but a blank at the end is kept. -/
theorem run_half : ∀ l : List Nat, Half l → (l.getLast? = some 32 ∧ runC ([], false) l = (l.dropLast, true)) ∨ (l.getLast? ≠ some 32 ∧ runC ([], false) l = (l, false)) := by
  intro l
  generalize hn : l.length = n
  induction n generalizing l with
  | zero =>
    intro _
    have : l = [] := List.eq_nil_of_length_eq_zero hn
    subst this
    exact .inr ⟨by simp, rfl⟩
  | succ n ih =>
    intro h
    have hne : l ≠ [] := fun e => by rw [e] at hn; cases hn
    obtain ⟨p, r, rfl⟩ : ∃ p r, l = p ++ [r] := ⟨_, _, (List.dropLast_concat_getLast hne).symm⟩
    have hp : Half p := by
      have := h.take p.length
      rwa [List.take_left] at this
    have hr := h.each r (by simp)
    rw [runC_snoc, List.getLast?_append, List.dropLast_concat]
    simp only [List.getLast?_singleton, Option.some_or]
    by_cases h32 : r = 32
    · subst h32
      left
      refine ⟨rfl, ?_⟩
      have hlast : p.getLast? ≠ some 32 := fun hl => by
        rw [List.getLast?_eq_getElem?] at hl
        have hpl : 0 < p.length := by
          rcases Nat.eq_zero_or_pos p.length with h0 | h0
          · have := List.eq_nil_of_length_eq_zero h0
            subst this
            cases hl
          · exact h0
        exact h.two (p.length - 1) (get_snoc.2 (.inl hl)) (get_snoc.2 (.inr ⟨by omega, rfl⟩))
      rcases ih p (by simpa using hn) hp with ⟨h1, _⟩ | ⟨_, h1⟩
      · exact absurd h1 hlast
      · rw [h1]
        unfold stepC
        rw [if_pos white_32]
    · right
      refine ⟨by simpa using h32, ?_⟩
      have hw : whiteN r = false := by
        rcases hw : whiteN r with _ | _
        · rfl
        · exact absurd (hr.2 hw) h32
      rcases ih p (by simpa using hn) hp with ⟨hl, h1⟩ | ⟨_, h1⟩
      · rw [h1]
        have hd : p.dropLast ≠ [] := fun e => by
          have hpne : p ≠ [] := fun e => by rw [e] at hl; cases hl
          have h2 := List.dropLast_concat_getLast hpne
          rw [e, List.nil_append] at h2
          have h3 : p.getLast hpne = 32 := by
            rw [List.getLast?_eq_some_getLast hpne] at hl
            exact Option.some.inj hl
          have h4 := h.head
          rw [← h2, h3] at h4
          simp at h4
        have hpd : p = p.dropLast ++ [32] := by
          have hpne : p ≠ [] := fun e => by rw [e] at hl; cases hl
          have h2 := List.dropLast_concat_getLast hpne
          rw [List.getLast?_eq_some_getLast hpne] at hl
          rw [Option.some.inj hl] at h2
          exact h2.symm
        unfold stepC
        rw [if_neg (by rw [hw]; simp), if_neg (by rw [hr.1]; simp), if_pos ⟨rfl, hd⟩, ← hpd]
      · rw [h1]
        unfold stepC
        rw [if_neg (by rw [hw]; simp), if_neg (by rw [hr.1]; simp), if_neg (by simp)]
theorem clean_half {l : List Nat} (h : Half l) : cleanR l = if l.getLast? = some 32 then l.dropLast else l := by
  unfold cleanR
  rcases run_half l h with ⟨h1, h2⟩ | ⟨h1, h2⟩
  · rw [h2, if_pos h1]
  · rw [h2, if_neg h1]
theorem clean_id {l : List Nat} (h : Good l) : cleanR l = l := by rw [clean_half h.half, if_neg h.last]
theorem clean_clean (rs : List Nat) : cleanR (cleanR rs) = cleanR rs := clean_id (clean_good rs)

/-- The runes that are kept came in. -/
theorem runC_vr (rs : List Nat) : ∀ a : List Nat × Bool, (∀ r ∈ a.1, vr r) → (∀ r ∈ rs, vr r) → ∀ r ∈ (runC a rs).1, vr r := by
  induction rs with
  | nil => exact fun a h _ => h
  | cons x rs ih =>
    intro a h hr
    refine ih (stepC a x) (fun r hm => ?_) (fun r hm => hr r (by simp [hm]))
    unfold stepC at hm
    split at hm
    · exact h r hm
    · split at hm
      · exact h r hm
      · rcases List.mem_append.1 hm with hm | hm
        · split at hm
          · rcases List.mem_append.1 hm with hm | hm
            · exact h r hm
            · rw [List.mem_singleton] at hm
              subst hm
              unfold vr
              omega
          · exact h r hm
        · rw [List.mem_singleton] at hm
          subst hm
          exact hr r (by simp)
theorem clean_vr {rs : List Nat} (h : ∀ r ∈ rs, vr r) : ∀ r ∈ cleanR rs, vr r := runC_vr rs _ (by simp) h
theorem runC_len (rs : List Nat) : (runC ([], false) rs).1.length + (if (runC ([], false) rs).2 = true ∧ (runC ([], false) rs).1 ≠ [] then 1 else 0) ≤ rs.length := by
  generalize hn : rs.length = n
  induction n generalizing rs with
  | zero =>
    have : rs = [] := List.eq_nil_of_length_eq_zero hn
    subst this
    simp [runC]
  | succ n ih =>
    have hne : rs ≠ [] := fun e => by rw [e] at hn; cases hn
    obtain ⟨p, r, rfl⟩ : ∃ p r, rs = p ++ [r] := ⟨_, _, (List.dropLast_concat_getLast hne).symm⟩
    have h := ih p (by simpa using hn)
    rw [runC_snoc]
    generalize runC ([], false) p = a at h
    obtain ⟨acc, g⟩ := a
    unfold stepC
    split
    · simp only at h ⊢
      split
      · split at h <;> omega
      · split at h <;> omega
    · split
      · omega
      · simp only at h ⊢
        split
        · rename_i hg
          rw [if_pos hg] at h
          simp
          omega
        · rename_i hg
          rw [if_neg hg] at h
          simp
          omega
theorem clean_len (rs : List Nat) : (cleanR rs).length ≤ rs.length := by
  have := runC_len rs
  unfold cleanR
  omega

/-- Behind a blank: as alone, but for the blank between. -/
theorem run_behind {acc : List Nat} (hne : acc ≠ []) (rs : List Nat) : runC (acc, true) rs = if (runC ([], false) rs).1 = [] then (acc, true) else (acc ++ 32 :: (runC ([], false) rs).1, (runC ([], false) rs).2) := by
  generalize hn : rs.length = n
  induction n generalizing rs with
  | zero =>
    have : rs = [] := List.eq_nil_of_length_eq_zero hn
    subst this
    simp [runC]
  | succ n ih =>
    have hr : rs ≠ [] := fun e => by rw [e] at hn; cases hn
    obtain ⟨p, r, rfl⟩ : ∃ p r, rs = p ++ [r] := ⟨_, _, (List.dropLast_concat_getLast hr).symm⟩
    have h := ih p (by simpa using hn)
    rw [runC_snoc, runC_snoc, h]
    generalize runC ([], false) p = a
    obtain ⟨b, g⟩ := a
    simp only
    unfold stepC
    by_cases hw : whiteN r = true
    · simp only [if_pos hw]
      by_cases hb : b = []
      · simp [hb]
      · simp [hb]
    · simp only [if_neg hw]
      by_cases hba : bareN r = true
      · simp only [if_pos hba]
      · simp only [if_neg hba]
        by_cases hb : b = []
        · subst hb
          simp [hne]
        · simp only [if_neg hb]
          by_cases hg : g = true
          · simp [hg, hb]
          · simp [hg]
theorem clean_blank (a b : List Nat) : cleanR (a ++ 32 :: b) = if cleanR a = [] then cleanR b else if cleanR b = [] then cleanR a else cleanR a ++ 32 :: cleanR b := by
  have h : runC ([], false) (a ++ 32 :: b) = runC ((runC ([], false) a).1, true) b := by
    rw [runC_append]
    show runC (stepC (runC ([], false) a) 32) b = _
    unfold stepC
    rw [if_pos white_32]
  unfold cleanR
  rw [h]
  by_cases ha : (runC ([], false) a).1 = []
  · rw [ha, if_pos rfl]
    -- no gap ahead of the first rune
    have : ∀ rs : List Nat, (runC ([], true) rs).1 = (runC ([], false) rs).1 ∧ ((runC ([], false) rs).1 ≠ [] → (runC ([], true) rs).2 = (runC ([], false) rs).2) := by
      intro rs
      generalize hn : rs.length = n
      induction n generalizing rs with
      | zero =>
        have : rs = [] := List.eq_nil_of_length_eq_zero hn
        subst this
        simp [runC]
      | succ n ih =>
        have hr : rs ≠ [] := fun e => by rw [e] at hn; cases hn
        obtain ⟨p, r, rfl⟩ : ∃ p r, rs = p ++ [r] := ⟨_, _, (List.dropLast_concat_getLast hr).symm⟩
        have h := ih p (by simpa using hn)
        rw [runC_snoc, runC_snoc]
        generalize runC ([], false) p = x at h
        generalize runC ([], true) p = y at h
        obtain ⟨x1, x2⟩ := x
        obtain ⟨y1, y2⟩ := y
        simp only at h
        obtain ⟨rfl, h2⟩ := h
        unfold stepC
        by_cases hw : whiteN r = true
        · simp [hw]
        · simp only [if_neg hw]
          by_cases hba : bareN r = true
          · simp only [if_pos hba]
            exact ⟨trivial, h2⟩
          · simp only [if_neg hba]
            by_cases hx : y1 = []
            · simp [hx]
            · simp [hx, h2 hx]
    exact (this b).1
  · rw [if_neg ha, run_behind ha]
    split <;> rfl

theorem clean_small (rs : List Nat) : cleanR (rs.map smallN) = (cleanR rs).map smallN := by
  have : ∀ rs : List Nat, runC ([], false) (rs.map smallN) = ((runC ([], false) rs).1.map smallN, (runC ([], false) rs).2) := by
    intro rs
    generalize hn : rs.length = n
    induction n generalizing rs with
    | zero =>
      have : rs = [] := List.eq_nil_of_length_eq_zero hn
      subst this
      rfl
    | succ n ih =>
      have hr : rs ≠ [] := fun e => by rw [e] at hn; cases hn
      obtain ⟨p, r, rfl⟩ : ∃ p r, rs = p ++ [r] := ⟨_, _, (List.dropLast_concat_getLast hr).symm⟩
      rw [List.map_append, List.map_singleton, runC_snoc, runC_snoc, ih p (by simpa using hn)]
      generalize runC ([], false) p = a
      obtain ⟨acc, g⟩ := a
      unfold stepC
      rw [small_white, small_bare]
      simp only
      by_cases hw : whiteN r = true
      · simp only [if_pos hw]
      · simp only [if_neg hw]
        by_cases hba : bareN r = true
        · simp only [if_pos hba]
        · simp only [if_neg hba]
          by_cases hg : g = true ∧ acc ≠ []
          · rw [if_pos ⟨hg.1, by simpa using hg.2⟩, if_pos hg]
            simp [(small_32 32).2 rfl]
          · rw [if_neg (fun h => hg ⟨h.1, by simpa using h.2⟩), if_neg hg]
            simp
  unfold cleanR
  rw [this]

/-- Without a blank at the end. -/
def trimR (l : List Nat) : List Nat := if l.getLast? = some 32 then l.dropLast else l
/-- The first n runes, without a blank at the end. -/
def cutR (l : List Nat) (n : Nat) : List Nat := trimR (l.take n)
theorem trim_good {l : List Nat} (h : Half l) : Good (trimR l) := by
  have := clean_half h
  unfold trimR
  rw [← this]
  exact clean_good l
theorem trim_id {l : List Nat} (h : Good l) : trimR l = l := by unfold trimR; rw [if_neg h.last]
theorem trim_prefix (l : List Nat) : ∃ t, l = trimR l ++ t := by
  unfold trimR
  split
  · rename_i h
    have hne : l ≠ [] := fun e => by rw [e] at h; cases h
    exact ⟨[l.getLast hne], (List.dropLast_concat_getLast hne).symm⟩
  · exact ⟨[], by simp⟩
theorem cut_good {l : List Nat} (h : Good l) (n : Nat) : Good (cutR l n) := trim_good (h.half.take n)
theorem cut_prefix (l : List Nat) (n : Nat) : ∃ t, l = cutR l n ++ t := by
  obtain ⟨t, ht⟩ := trim_prefix (l.take n)
  refine ⟨t ++ l.drop n, ?_⟩
  rw [← List.append_assoc]
  show l = trimR (l.take n) ++ t ++ _
  rw [← ht, List.take_append_drop]
theorem cut_len (l : List Nat) (n : Nat) : (cutR l n).length ≤ n ∧ (cutR l n).length ≤ l.length := by
  obtain ⟨t, ht⟩ := trim_prefix (l.take n)
  have h1 := congrArg List.length ht
  rw [List.length_append, List.length_take] at h1
  have h2 : (cutR l n).length = (trimR (l.take n)).length := rfl
  omega
theorem cut_cut {l : List Nat} (h : Good l) (n : Nat) : cutR (cutR l n) n = cutR l n := by
  have h1 := (cut_len l n).1
  show trimR ((cutR l n).take n) = _
  rw [List.take_of_length_le h1, trim_id (cut_good h n)]
theorem cut_all {l : List Nat} (h : Good l) {n : Nat} (hn : l.length ≤ n) : cutR l n = l := by
  show trimR (l.take n) = l
  rw [List.take_of_length_le hn, trim_id h]
end Go.Proofs.YtbofkndkgdnbmaaDoor

/-
  RecLaw: check sums, frames of records, and what is taken off a row of bytes: plain words.
-/
set_option linter.unusedVariables false
set_option linter.unusedSimpArgs false
namespace Go.Proofs.Ytenihlicjahjhaa

/-- one more byte -/
def fStep (p : Nat × Nat) (c : UInt8) : Nat × Nat := ((p.1 + c.toNat) % 65521, (p.2 + (p.1 + c.toNat) % 65521) % 65521)
def fFold (p : Nat × Nat) (l : List UInt8) : Nat × Nat := l.foldl fStep p
def fOpen (s : Nat) : Nat × Nat := (s % 65536 % 65521, s / 65536 % 65521)
def fShut (p : Nat × Nat) : Nat := p.2 * 65536 + p.1
def more (s : Nat) (l : List UInt8) : Nat := fShut (fFold (fOpen s) l)
def sumOf (l : List UInt8) : Nat := more 1 l

theorem fStep_lt (p : Nat × Nat) (c : UInt8) : (fStep p c).1 < 65521 ∧ (fStep p c).2 < 65521 := ⟨Nat.mod_lt _ (by omega), Nat.mod_lt _ (by omega)⟩
theorem fFold_lt (l : List UInt8) : ∀ p : Nat × Nat, p.1 < 65521 ∧ p.2 < 65521 → (fFold p l).1 < 65521 ∧ (fFold p l).2 < 65521 := by
  induction l with
  | nil => exact fun p h => h
  | cons c l ih => exact fun p _ => ih _ (fStep_lt p c)
theorem fOpen_lt (s : Nat) : (fOpen s).1 < 65521 ∧ (fOpen s).2 < 65521 := ⟨Nat.mod_lt _ (by omega), Nat.mod_lt _ (by omega)⟩
theorem fOpen_fShut (p : Nat × Nat) (h : p.1 < 65521 ∧ p.2 < 65521) : fOpen (fShut p) = p := by
  obtain ⟨a, b⟩ := p
  simp only [fOpen, fShut] at *
  have e1 : (b * 65536 + a) % 65536 = a := by omega
  have e2 : (b * 65536 + a) / 65536 = b := by omega
  rw [e1, e2, Nat.mod_eq_of_lt h.1, Nat.mod_eq_of_lt h.2]
theorem more_lt (s : Nat) (l : List UInt8) : more s l < 4294967296 := by
  have := fFold_lt l (fOpen s) (fOpen_lt s)
  unfold more fShut; omega
theorem more_more (s : Nat) (a b : List UInt8) : more (more s a) b = more s (a ++ b) := by
  unfold more
  rw [fOpen_fShut _ (fFold_lt a _ (fOpen_lt s)), fFold, fFold, fFold, List.foldl_append]
theorem fFold_snoc (p : Nat × Nat) (l : List UInt8) (c : UInt8) : fFold p (l ++ [c]) = fStep (fFold p l) c := by simp [fFold]

def b8 (n : Nat) : UInt8 := UInt8.ofNat n
/-- a record's first three bytes -/
def headOf (n : Nat) : List UInt8 := [0xA7, b8 (n - 1), b8 ((n - 1) / 256)]
def sumBytes (s : Nat) : List UInt8 := [b8 s, b8 (s / 256), b8 (s / 65536), b8 (s / 16777216)]
/-- a record's frame -/
def frame (b : List UInt8) : List UInt8 := headOf b.length ++ sumBytes (sumOf (headOf b.length ++ b)) ++ b

theorem frame_length (b : List UInt8) : (frame b).length = 7 + b.length := by simp [frame, headOf, sumBytes]; omega

/-- how long a record says that it is -/
def recN (b : List UInt8) : Nat := (b.getD 1 0).toNat + 256 * (b.getD 2 0).toNat + 1
def sumAt (b : List UInt8) : Nat := (b.getD 3 0).toNat + 256 * (b.getD 4 0).toNat + 65536 * (b.getD 5 0).toNat + 16777216 * (b.getD 6 0).toNat
/-- why no record is taken; 0: one is -/
def recE (b : List UInt8) : Int :=
  if b.length = 0 then 42
  else if b.getD 0 0 ≠ 0xA7 then 41
  else if b.length < 3 then 42
  else if 4096 < recN b then 41
  else if b.length < 7 + recN b then 42
  else if sumAt b = sumOf (b.take 3 ++ (b.drop 7).take (recN b)) then 0
  else 41
def takeX (b : List UInt8) : List UInt8 := (b.drop 7).take (recN b)

theorem recE_zero {b : List UInt8} (h : recE b = 0) : b.getD 0 0 = 0xA7 ∧ recN b ≤ 4096 ∧ 7 + recN b ≤ b.length ∧ sumAt b = sumOf (b.take 3 ++ (b.drop 7).take (recN b)) := by
  unfold recE at h
  split at h
  · cases h
  split at h
  · cases h
  split at h
  · cases h
  split at h
  · cases h
  split at h
  · cases h
  split at h
  · rename_i h1 h2 h3 h4 h5 h6
    exact ⟨by simpa using h2, by omega, by omega, h6⟩
  · cases h

theorem takeX_length {b : List UInt8} (h : recE b = 0) : (takeX b).length = recN b := by
  have := recE_zero h
  unfold takeX
  rw [List.length_take, List.length_drop]; omega

theorem recN_pos (b : List UInt8) : 1 ≤ recN b := by unfold recN; omega

/-- all records at the beginning -/
def scanN : Nat → List UInt8 → List (List UInt8)
  | 0, _ => []
  | k + 1, b => if recE b = 0 then takeX b :: scanN k (b.drop (7 + recN b)) else []
def scan (b : List UInt8) : List (List UInt8) := scanN b.length b
/-- how many bytes the frames of records have -/
def used : List (List UInt8) → Nat
  | [] => 0
  | x :: r => 7 + x.length + used r

theorem used_append (a b : List (List UInt8)) : used (a ++ b) = used a + used b := by
  induction a with
  | nil => simp [used]
  | cons x a ih => simp only [List.cons_append, used, ih]; omega

theorem scanN_more : ∀ (k j : Nat) (b : List UInt8), b.length ≤ k → b.length ≤ j → scanN k b = scanN j b
  | 0, j, b, hk, _ => by
    have : b = [] := List.eq_nil_of_length_eq_zero (by omega)
    subst this
    cases j <;> simp [scanN, recE]
  | k + 1, 0, b, _, hj => by
    have : b = [] := List.eq_nil_of_length_eq_zero (by omega)
    subst this
    simp [scanN, recE]
  | k + 1, j + 1, b, hk, hj => by
    unfold scanN
    split
    · rename_i h
      have := recE_zero h
      rw [scanN_more k j _ (by rw [List.length_drop]; omega) (by rw [List.length_drop]; omega)]
    · rfl

theorem scan_step {b : List UInt8} (h : recE b = 0) : scan b = takeX b :: scan (b.drop (7 + recN b)) := by
  have hz := recE_zero h
  unfold scan
  cases hb : b.length with
  | zero => omega
  | succ n =>
    rw [scanN, if_pos h, scanN_more n (b.drop (7 + recN b)).length _ (by rw [List.length_drop]; omega) (Nat.le_refl _)]
theorem scan_stop {b : List UInt8} (h : recE b ≠ 0) : scan b = [] := by
  unfold scan
  cases b.length <;> simp [scanN, h]

theorem used_scan_le : ∀ (n : Nat) (b : List UInt8), b.length ≤ n → used (scan b) ≤ b.length
  | 0, b, h => by
    have : b = [] := List.eq_nil_of_length_eq_zero (by omega)
    subst this
    simp [scan, scanN, used]
  | n + 1, b, h => by
    by_cases ht : recE b = 0
    · rw [scan_step ht, used, takeX_length ht]
      have := recE_zero ht
      have := used_scan_le n (b.drop (7 + recN b)) (by rw [List.length_drop]; omega)
      rw [List.length_drop] at this
      omega
    · rw [scan_stop ht]; simp [used]
end Go.Proofs.Ytenihlicjahjhaa

/- Plain facts on the texts of lineages: ordinals of at most six digits between dots. -/
import Derived.Test.YtedlfmjgbehgkaaGreatDoorCodecP
namespace Go.Proofs.YtedlfmjgbehgkaaGreatDoor

def isDig (c : UInt8) : Bool := decide (48 ≤ c.toNat) && decide (c.toNat ≤ 57)
/-- How many digits stand at the head (at most n). -/
def dcount : Nat → List UInt8 → Nat
  | 0, _ => 0
  | _ + 1, [] => 0
  | n + 1, c :: l => if isDig c then dcount n l + 1 else 0
theorem dcount_le (n : Nat) (l : List UInt8) : dcount n l ≤ n := by
  induction n generalizing l with
  | zero => simp [dcount]
  | succ k ih => cases l with
    | nil => simp [dcount]
    | cons c l => simp only [dcount]; split; have := ih l; omega; omega
theorem dcount_le_length (n : Nat) (l : List UInt8) : dcount n l ≤ l.length := by
  induction n generalizing l with
  | zero => simp [dcount]
  | succ k ih => cases l with
    | nil => simp [dcount]
    | cons c l => simp only [dcount]; split; have := ih l; simp; omega; omega
theorem dcount_step (n k : Nat) (l : List UInt8) (hk : k < n) (hl : k < l.length) :
    dcount (n - k) (l.drop k) = if isDig l[k] then dcount (n - (k + 1)) (l.drop (k + 1)) + 1 else 0 := by
  obtain ⟨m, hm⟩ : ∃ m, n - k = m + 1 := ⟨n - k - 1, by omega⟩
  rw [hm, List.drop_eq_getElem_cons hl, show n - (k + 1) = m by omega]
  rfl
theorem dcount_end (n k : Nat) (l : List UInt8) (h : n ≤ k ∨ l.length ≤ k) : dcount (n - k) (l.drop k) = 0 := by
  rcases h with h | h
  · rw [show n - k = 0 by omega]; rfl
  · rw [List.drop_eq_nil_of_le h]; cases n - k <;> rfl
/-- The number that digits denote. -/
def dval (l : List UInt8) : Nat := l.foldl (fun n c => 10 * n + (c.toNat - 48)) 0
theorem dval_snoc (l : List UInt8) (c : UInt8) : dval (l ++ [c]) = 10 * dval l + (c.toNat - 48) := by simp [dval]
theorem dval_take (l : List UInt8) (k : Nat) (h : k < l.length) : dval (l.take (k + 1)) = 10 * dval (l.take k) + (l[k].toNat - 48) := by
  rw [List.take_succ_eq_append_getElem h, dval_snoc]
/-- The first error of the ordinal at the head of r, behind count others. -/
def ordErr (count : Nat) (r : List UInt8) : Int :=
  if count = 8 then 9 else if r = [] then 4 else if dcount 7 r = 0 then 6 else if r.getD 0 0 = 48 then 3 else if 6 < dcount 7 r then 2 else 0
theorem isDig_iff (c : UInt8) : isDig c = true ↔ 48 ≤ (c.toNat : Int) ∧ (c.toNat : Int) ≤ 57 := by
  simp [isDig]; omega
theorem dval_digits_lt (l : List UInt8) (k : Nat) (h : ∀ i, (hi : i < k) → (hl : i < l.length) → isDig l[i] = true) : dval (l.take k) < 10 ^ k := by
  induction k with
  | zero => simp [dval]
  | succ k ih =>
    have ih' := ih (fun i hi hl => h i (by omega) hl)
    by_cases hk : k < l.length
    · rw [dval_take l k hk, Nat.pow_succ]
      have := (isDig_iff _).1 (h k (by omega) hk)
      omega
    · rw [List.take_of_length_le (by omega)]
      rw [List.take_of_length_le (by omega)] at ih'
      rw [Nat.pow_succ]
      omega
theorem dcount_get (n : Nat) (l : List UInt8) (i : Nat) (h : i < dcount n l) (hi : i < l.length) : isDig l[i] = true := by
  induction n generalizing l i with
  | zero => simp [dcount] at h
  | succ n ih => cases l with
    | nil => simp at hi
    | cons c l =>
      simp only [dcount] at h
      split at h
      · cases i with
        | zero => simpa using ‹isDig c = true›
        | succ i => simp; exact ih l i (by omega) (by simpa using hi)
      · omega

structure Part where
  ord : Nat
  at_ : Nat
  e : Int
/-- The parts that are found from an offset on, behind count others; r is what stands there. -/
def partsFrom (at_ count : Nat) (r : List UInt8) : List Part :=
  if ordErr count r ≠ 0 then [⟨0, at_, ordErr count r⟩]
  else ⟨dval (r.take (dcount 7 r)), at_, 0⟩ :: (if h : dcount 7 r < r.length then (if r[dcount 7 r] ≠ 46 then [⟨0, at_ + dcount 7 r, 6⟩] else partsFrom (at_ + dcount 7 r + 1) (count + 1) (r.drop (dcount 7 r + 1))) else [])
termination_by r.length
decreasing_by simp; omega
def partsOf (s : List UInt8) : List Part := if s = [] then [] else partsFrom 0 0 s
/-- The error of a text: that of the last part. -/
def linErr (s : List UInt8) : Int := ((partsOf s).getLast?.map (·.e)).getD 0
def vname (s : List UInt8) : Bool := linErr s == 0
end Go.Proofs.YtedlfmjgbehgkaaGreatDoor

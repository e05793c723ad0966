/- Plain facts on the canonical encodings of numbers: no program in sight. -/
import Derived.Laws.BitsAllLaws
import Derived.WalkKit
namespace Go.Proofs.YtedlfmjgbehgkaaGreatDoor

/-- How many bytes at the head of l (at most k) have the continuation bit. -/
def ext : Nat → List UInt8 → Nat
  | 0, _ => 0
  | _ + 1, [] => 0
  | k + 1, c :: l => if 128 ≤ c.toNat then ext k l + 1 else 0
theorem ext_le (k : Nat) (l : List UInt8) : ext k l ≤ k := by
  induction k generalizing l with
  | zero => simp [ext]
  | succ k ih => cases l with
    | nil => simp [ext]
    | cons c l => simp only [ext]; split; have := ih l; omega; omega
theorem ext_le_length (k : Nat) (l : List UInt8) : ext k l ≤ l.length := by
  induction k generalizing l with
  | zero => simp [ext]
  | succ k ih => cases l with
    | nil => simp [ext]
    | cons c l => simp only [ext]; split; have := ih l; simp; omega; omega
/-- One step of the search from place k on. -/
theorem ext_step (n k : Nat) (l : List UInt8) (hk : k < n) (hl : k < l.length) :
    ext (n - k) (l.drop k) = if 128 ≤ l[k].toNat then ext (n - (k + 1)) (l.drop (k + 1)) + 1 else 0 := by
  obtain ⟨m, hm⟩ : ∃ m, n - k = m + 1 := ⟨n - k - 1, by omega⟩
  rw [hm, List.drop_eq_getElem_cons hl, show n - (k + 1) = m by omega]
  rfl
theorem ext_end (n k : Nat) (l : List UInt8) (h : n ≤ k ∨ l.length ≤ k) : ext (n - k) (l.drop k) = 0 := by
  rcases h with h | h
  · rw [show n - k = 0 by omega]; rfl
  · rw [List.drop_eq_nil_of_le h]; cases n - k <;> rfl
/-- The bytes that are passed over have the bit, the one behind them has not. -/
theorem ext_get (n : Nat) (l : List UInt8) (i : Nat) (h : i < ext n l) (hi : i < l.length) : 128 ≤ l[i].toNat := by
  induction n generalizing l i with
  | zero => simp [ext] at h
  | succ n ih => cases l with
    | nil => simp at hi
    | cons c l =>
      simp only [ext] at h
      split at h
      · cases i with
        | zero => simpa using ‹128 ≤ c.toNat›
        | succ i => simp; exact ih l i (by omega) (by simpa using hi)
      · omega
theorem ext_stop (n : Nat) (l : List UInt8) (h : ext n l < n) (hi : ext n l < l.length) : l[ext n l].toNat < 128 := by
  induction n generalizing l with
  | zero => omega
  | succ n ih => cases l with
    | nil => simp at hi
    | cons c l =>
      by_cases hc : 128 ≤ c.toNat
      · have e : ext (n + 1) (c :: l) = ext n l + 1 := by simp [ext, hc]
        have h2 : ext n l < n := by omega
        have h3 : ext n l < l.length := by rw [e] at hi; simpa using hi
        have := ih l h2 h3
        simpa [e] using this
      · have e : ext (n + 1) (c :: l) = 0 := by simp [ext, hc]
        simp [e]; omega

/-- The number whose groups of seven bits are the bytes, the lowest first. -/
def val : List UInt8 → Nat
  | [] => 0
  | c :: l => c.toNat % 128 + 128 * val l
theorem val_lt (l : List UInt8) : val l < 128 ^ l.length := by
  induction l with
  | nil => simp [val]
  | cons c l ih =>
    simp only [val, List.length_cons, Nat.pow_succ]
    omega
/-- What parseNatural returns with at most nine groups: the number, the length, the error. -/
def parse9 (b : List UInt8) : Nat × Nat × Int :=
  if ext 9 b = 9 then (0, 0, 3) else if ext 9 b = b.length then (0, 0, 28) else if 0 < ext 9 b ∧ b.getD (ext 9 b) 0 = 0 then (0, 0, 3) else (val (b.take (ext 9 b + 1)), ext 9 b + 1, 0)

theorem parse9_nine {l : List UInt8} (h : ext 9 l = 9) : parse9 l = (0, 0, 3) := by
  unfold parse9; rw [if_pos h]
theorem parse9_short {l : List UInt8} (h : ext 9 l = l.length) (h9 : l.length ≠ 9) : parse9 l = (0, 0, 28) := by
  unfold parse9; rw [if_neg (by omega), if_pos h]
theorem parse9_zero {l : List UInt8} {k : Nat} (h : ext 9 l = k) (h9 : k < 9) (hk : k < l.length) (h0 : 0 < k) (hz : l[k].toNat = 0) : parse9 l = (0, 0, 3) := by
  unfold parse9
  have hz' : l.getD k 0 = 0 := by
    rw [List.getD_eq_getElem?_getD, List.getElem?_eq_getElem hk]
    simp only [Option.getD_some]
    exact UInt8.toNat_inj.1 (by simpa using hz)
  rw [h, if_neg (by omega), if_neg (by omega), if_pos ⟨h0, hz'⟩]
theorem parse9_good {l : List UInt8} {k : Nat} (h : ext 9 l = k) (h9 : k < 9) (hk : k < l.length) (h0 : k = 0 ∨ l[k].toNat ≠ 0) : parse9 l = (val (l.take (k + 1)), k + 1, 0) := by
  unfold parse9
  rw [h, if_neg (by omega), if_neg (by omega), if_neg]
  rintro ⟨a1, a2⟩
  rw [List.getD_eq_getElem?_getD, List.getElem?_eq_getElem hk] at a2
  simp only [Option.getD_some] at a2
  rcases h0 with h0 | h0
  · omega
  · rw [a2] at h0; simp at h0

/-- The canonical encoding of a natural number. -/
def encNat (n : Nat) : List UInt8 := if n < 128 then [UInt8.ofNat n] else UInt8.ofNat (n % 128 + 128) :: encNat (n / 128)
termination_by n
decreasing_by omega
theorem encNat_small {n : Nat} (h : n < 128) : encNat n = [UInt8.ofNat n] := by rw [encNat, if_pos h]
theorem encNat_large {n : Nat} (h : ¬ n < 128) : encNat n = UInt8.ofNat (n % 128 + 128) :: encNat (n / 128) := by rw [encNat, if_neg h]
theorem encNat_length_pos (n : Nat) : 0 < (encNat n).length := by
  by_cases h : n < 128
  · simp [encNat_small h]
  · simp [encNat_large h]
theorem encNat_length_le (n k : Nat) (h : n < 128 ^ k) (hk : 0 < k) : (encNat n).length ≤ k := by
  induction k generalizing n with
  | zero => omega
  | succ k ih =>
    by_cases hn : n < 128
    · simp [encNat_small hn]
    · rw [encNat_large hn]
      simp only [List.length_cons, Nat.add_le_add_iff_right]
      have hk0 : 0 < k := by
        rcases Nat.eq_zero_or_pos k with h0 | h0
        · subst h0; simp at h; omega
        · exact h0
      refine ih _ ?_ hk0
      rw [Nat.pow_succ] at h
      omega
theorem encNat_length_u64 (n : Nat) (h : n < 18446744073709551616) : (encNat n).length ≤ 10 := by
  have e10 : (128 : Nat) ^ 10 = 1180591620717411303424 := by decide
  exact encNat_length_le n 10 (by omega) (by omega)
theorem u8_toNat_ofNat {n : Nat} (h : n < 256) : (UInt8.ofNat n).toNat = n := by simp [UInt8.toNat_ofNat']; omega
/-- Reading an encoding gives the number, whatever stands behind it. -/
theorem ext_encNat (n k : Nat) (l : List UInt8) (h : (encNat n).length ≤ k) : ext k (encNat n ++ l) = (encNat n).length - 1 := by
  induction k generalizing n with
  | zero => have := encNat_length_pos n; omega
  | succ k ih =>
    by_cases hn : n < 128
    · simp [encNat_small hn, ext, u8_toNat_ofNat (show n < 256 by omega)]; omega
    · rw [encNat_large hn] at h ⊢
      simp only [List.length_cons, List.cons_append, ext] at h ⊢
      rw [u8_toNat_ofNat (by omega), if_pos (by omega), ih _ (by omega)]
      have := encNat_length_pos (n / 128)
      omega
theorem val_encNat (n : Nat) : val (encNat n) = n := by
  induction n using Nat.strongRecOn with
  | _ n ih =>
    by_cases hn : n < 128
    · simp [encNat_small hn, val, u8_toNat_ofNat (show n < 256 by omega)]; omega
    · rw [encNat_large hn]
      simp only [val]
      rw [ih _ (by omega), u8_toNat_ofNat (by omega)]
      omega
/-- The last byte of an encoding of more than one byte is not 0. -/
theorem encNat_last (n : Nat) (h : 1 < (encNat n).length) : (encNat n).getD ((encNat n).length - 1) 0 ≠ 0 := by
  induction n using Nat.strongRecOn with
  | _ n ih =>
    by_cases hn : n < 128
    · simp [encNat_small hn] at h
    · rw [encNat_large hn] at h ⊢
      by_cases h2 : n / 128 < 128
      · rw [encNat_small h2]
        simp only [List.length_cons, List.length_nil]
        intro e
        have e2 := congrArg UInt8.toNat e
        simp only [List.getD_eq_getElem?_getD] at e2
        simp at e2
        omega
      · have hp := encNat_length_pos (n / 128 / 128)
        have hl : 1 < (encNat (n / 128)).length := by rw [encNat_large h2]; simp; omega
        have := ih _ (by omega) hl
        obtain ⟨m, hm⟩ : ∃ m, (encNat (n / 128)).length = m + 1 := ⟨_, (Nat.succ_pred_eq_of_pos (encNat_length_pos _)).symm⟩
        rw [hm] at this
        simp only [List.length_cons, hm]
        simpa using this
theorem parse9_encNat (n : Nat) (l : List UInt8) (h : n < 2 ^ 63) : parse9 (encNat n ++ l) = (n, (encNat n).length, 0) := by
  have e63 : (2 : Nat) ^ 63 = 128 ^ 9 := by decide
  have hl : (encNat n).length ≤ 9 := encNat_length_le n 9 (e63 ▸ h) (by omega)
  have hp := encNat_length_pos n
  have he := ext_encNat n 9 l hl
  unfold parse9
  rw [he]
  rw [if_neg (by omega), if_neg (by simp; omega)]
  have hx : ¬ (0 < (encNat n).length - 1 ∧ (encNat n ++ l).getD ((encNat n).length - 1) 0 = 0) := by
    rintro ⟨h1, h2⟩
    refine encNat_last n (by omega) ?_
    rw [List.getD_eq_getElem?_getD, List.getElem?_append_left (by omega)] at h2
    rw [List.getD_eq_getElem?_getD]
    exact h2
  rw [if_neg hx, show (encNat n).length - 1 + 1 = (encNat n).length by omega, List.take_left', val_encNat]
  rfl
/-- What reads without an error is an encoding. -/
theorem encNat_val (l : List UInt8) (k : Nat) (hk : k < l.length) (hx : ∀ i, (h : i < k) → 128 ≤ (l[i]'(by omega)).toNat) (hs : l[k].toNat < 128) (h0 : k = 0 ∨ l[k].toNat ≠ 0) :
    encNat (val (l.take (k + 1))) = l.take (k + 1) := by
  induction k generalizing l with
  | zero => cases l with
    | nil => simp at hk
    | cons c l =>
      simp at hs
      have hc : c.toNat % 128 = c.toNat := Nat.mod_eq_of_lt hs
      simp [val, hc, encNat_small hs]
  | succ k ih => cases l with
    | nil => simp at hk
    | cons c l =>
      have hc : 128 ≤ c.toNat := hx 0 (by omega)
      have hc2 := c.toNat_lt
      have hs' : (l[k]'(by simpa using hk)).toNat < 128 := by simpa using hs
      have h0' : (l[k]'(by simpa using hk)).toNat ≠ 0 := by simpa using h0
      have ih' := ih l (by simpa using hk) (fun i h => by simpa using hx (i + 1) (by omega)) hs' (.inr h0')
      have hv : 0 < val (l.take (k + 1)) := by
        rcases Nat.eq_zero_or_pos (val (l.take (k + 1))) with hz | hz
        · exfalso
          rw [hz, encNat_small (by omega)] at ih'
          have h1 : (l.take (k + 1)).length = 1 := by rw [← ih']; rfl
          rw [List.length_take] at h1
          have hk0 : k = 0 := by have : k < l.length := by simpa using hk
                                 omega
          subst hk0
          cases l with
          | nil => simp at hk
          | cons d l =>
            simp at ih' h0'
            rw [← ih'] at h0'
            simp at h0'
        · exact hz
      simp only [List.take_succ_cons, val]
      have hq : c.toNat % 128 + 128 * val (l.take (k + 1)) = (c.toNat - 128) + 128 * val (l.take (k + 1)) := by omega
      rw [hq, encNat_large (by omega), show (c.toNat - 128 + 128 * val (l.take (k + 1))) / 128 = val (l.take (k + 1)) by omega, ih',
        show (c.toNat - 128 + 128 * val (l.take (k + 1))) % 128 + 128 = c.toNat by omega]
      simp
theorem parse9_ok (l : List UInt8) (n size : Nat) (h : parse9 l = (n, size, 0)) : encNat n = l.take size ∧ size ≤ l.length ∧ 0 < size ∧ size ≤ 9 ∧ n < 2 ^ 63 := by
  unfold parse9 at h
  split at h
  · simp at h
  split at h
  · simp at h
  split at h
  · simp at h
  rename_i h1 h2 h3
  have hl : ext 9 l < l.length := by have := ext_le_length 9 l; omega
  have hk : ext 9 l < 9 := by have := ext_le 9 l; omega
  simp only [Prod.mk.injEq, and_true] at h
  obtain ⟨rfl, rfl⟩ := h
  refine ⟨encNat_val l _ hl (fun i h => ext_get 9 l i h _) (ext_stop 9 l hk hl) ?_, by omega, by omega, by omega, ?_⟩
  · rcases Nat.eq_zero_or_pos (ext 9 l) with h0 | h0
    · exact .inl h0
    · refine .inr fun hz => h3 ⟨h0, ?_⟩
      rw [List.getD_eq_getElem?_getD, List.getElem?_eq_getElem hl]
      simp only [Option.getD_some]
      exact UInt8.toNat_inj.1 (by simpa using hz)
  · have hv := val_lt (l.take (ext 9 l + 1))
    have hle : (l.take (ext 9 l + 1)).length ≤ 9 := by rw [List.length_take]; omega
    have := Nat.pow_le_pow_right (n := 128) (by omega) hle
    have e : (128 : Nat) ^ 9 = 2 ^ 63 := by decide
    omega
theorem parse9_err (l : List UInt8) (h : (parse9 l).2.2 ≠ 0) : (parse9 l).1 = 0 ∧ (parse9 l).2.1 = 0 := by
  unfold parse9 at h ⊢
  split
  · simp
  split
  · simp
  split
  · simp
  · rename_i h1 h2 h3
    rw [if_neg h1, if_neg h2, if_neg h3] at h
    simp at h
theorem encNat_append_inj {a b : Nat} {s t : List UInt8} (ha : a < 2 ^ 63) (hb : b < 2 ^ 63) (h : encNat a ++ s = encNat b ++ t) : a = b ∧ s = t := by
  have h1 := parse9_encNat a s ha
  have h2 := parse9_encNat b t hb
  rw [h, h2] at h1
  simp only [Prod.mk.injEq, and_true] at h1
  obtain ⟨rfl, _⟩ := h1
  exact ⟨rfl, List.append_cancel_left h⟩
end Go.Proofs.YtedlfmjgbehgkaaGreatDoor

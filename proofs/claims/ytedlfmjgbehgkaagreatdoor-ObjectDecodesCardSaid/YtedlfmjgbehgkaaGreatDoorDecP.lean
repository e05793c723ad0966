/- The plain law of layer 4: Decode, as the implementation and as the reference reckon it, accepts exactly the encodings of valid names. -/
import Derived.Test.YtedlfmjgbehgkaaGreatDoorRefW8
namespace Go.Proofs.YtedlfmjgbehgkaaGreatDoor

theorem num_fwd (n : Nat) (most : Int) (r : List UInt8) (hn : n < 2 ^ 63) (hm : (n : Int) ≤ most) : rstep 0 (pNum most) ⟨encNat n ++ r, 0⟩ = (n, ⟨r, 0⟩) := by
  have hp := parse9_encNat n r hn
  have hq : pNum most (encNat n ++ r) = (n, (encNat n).length, 0) := by
    unfold pNum
    rw [hp, if_neg (by simp; omega)]
  unfold rstep
  rw [if_neg (by simp)]
  simp only [hq]
  simp
theorem num_bwd {most : Int} {st : RS} (h : (rstep 0 (pNum most) st).2.e = 0) : st.e = 0 ∧ st.rest = encNat (rstep 0 (pNum most) st).1 ++ (rstep 0 (pNum most) st).2.rest ∧ (rstep 0 (pNum most) st).1 < 2 ^ 63 := by
  unfold rstep at h ⊢
  by_cases he : st.e = 0
  · rw [if_neg (by simpa using he)] at h ⊢
    by_cases hp : (pNum most st.rest).2.2 = 0
    · rw [if_neg (by simpa using hp)]
      have hq : pNum most st.rest = parse9 st.rest := by
        unfold pNum at hp ⊢
        split
        · rw [if_pos ‹_›] at hp; simp at hp
        · rfl
      rw [hq] at hp ⊢
      have := parse9_ok st.rest (parse9 st.rest).1 (parse9 st.rest).2.1 (by rw [← hp])
      exact ⟨he, by simp only [this.1, List.take_append_drop], this.2.2.2.2⟩
    · rw [if_pos (by simpa using hp)] at h
      exact absurd h hp
  · rw [if_pos (by simpa using he)] at h
    exact absurd h he
theorem text_fwd (t : List UInt8) (most : Int) (r : List UInt8) (hm : (t.length : Int) ≤ most) (h2 : t.length ≤ 16777216) : rstep [] (pText most) ⟨encText t ++ r, 0⟩ = (t, ⟨r, 0⟩) := by
  have hp := parse9_encNat t.length (t ++ r) (by omega)
  have he : encText t ++ r = encNat t.length ++ (t ++ r) := by simp [encText]
  have hq : pText most (encText t ++ r) = (t, (encText t).length, 0) := by
    unfold pText
    rw [he, hp, if_neg (by simp), if_neg (by simp; omega), if_neg (by simp; omega)]
    simp [encText]
  unfold rstep
  rw [if_neg (by simp)]
  simp only [hq]
  simp
theorem text_bwd {most : Int} {st : RS} (h : (rstep [] (pText most) st).2.e = 0) : st.e = 0 ∧ st.rest = encText (rstep [] (pText most) st).1 ++ (rstep [] (pText most) st).2.rest := by
  unfold rstep at h ⊢
  by_cases he : st.e = 0
  · rw [if_neg (by simpa using he)] at h ⊢
    by_cases hp : (pText most st.rest).2.2 = 0
    · rw [if_neg (by simpa using hp)]
      refine ⟨he, ?_⟩
      unfold pText at hp ⊢
      split
      · rw [if_pos ‹_›] at hp; exact absurd hp ‹_›
      split
      · rw [if_neg ‹_›, if_pos ‹_›] at hp; simp at hp
      split
      · rw [if_neg ‹_›, if_neg ‹_›, if_pos ‹_›] at hp; simp at hp
      · rename_i h1 h2 h3
        simp only [ne_eq, Decidable.not_not] at h1
        have hk := parse9_ok st.rest (parse9 st.rest).1 (parse9 st.rest).2.1 (by rw [← h1])
        have hl : ((st.rest.drop (parse9 st.rest).2.1).take (parse9 st.rest).1).length = (parse9 st.rest).1 := by
          rw [List.length_take, List.length_drop]; omega
        simp only [encText, hl]
        rw [hk.1, List.append_assoc, ← List.drop_drop, List.take_append_drop, List.take_append_drop]
    · rw [if_pos (by simpa using hp)] at h
      exact absurd h hp
  · rw [if_pos (by simpa using he)] at h
    exact absurd h he
theorem take_fwd (n : Nat) (r : List UInt8) (hn : n < 2 ^ 63) : rTake (encNat n ++ r) = ((n : Int), r) := by
  unfold rTake
  rw [parse9_encNat n r hn]
  simp
theorem piece_fwd (t r : List UInt8) (h : t.length < 2 ^ 63) : rPiece (encText t ++ r) = (t, r) := by
  have he : encText t ++ r = encNat t.length ++ (t ++ r) := by simp [encText]
  unfold rPiece
  rw [he, take_fwd _ _ h, if_neg (by simp; omega)]
  simp

/-- What a valid name of kind k holds. -/
structure Good (k : Nat) (o : List UInt8) (n i : Nat) (t : List UInt8) : Prop where
  c : checkV ⟨k, o, n, i, t⟩ = 0
  k1 : 1 ≤ k
  k2 : k ≤ 20
  ol : o.length ≤ 16777216
theorem Good.parts {k : Nat} {o : List UInt8} {n i : Nat} {t : List UInt8} (h : Good k o n i t) :
    (uOwner k = false → o = []) ∧ (uNumber k = false → n = 0) ∧ (uIndex k = false → i = 0) ∧ (uText k = false → t = []) ∧
    (uNumber k = true → n ≤ 1073741824) ∧ (uIndex k = true → i ≤ uMost k) ∧ (uText k = true → t.length ≤ 32) := by
  have hc := h.c
  rw [checkV_core h.k1 h.k2] at hc
  unfold checkB at hc
  split at hc
  · cases hc
  rename_i h1
  split at hc
  · cases hc
  split at hc
  · cases hc
  rename_i h3
  split at hc
  · cases hc
  rename_i h4
  refine ⟨fun hf => ?_, fun hf => ?_, fun hf => ?_, fun hf => ?_, fun hf => ?_, fun hf => ?_, fun hf => ?_⟩
  · exact Classical.byContradiction fun hx => h1 (.inl ⟨hf, hx⟩)
  · exact Classical.byContradiction fun hx => h1 (.inr (.inl ⟨hf, by omega⟩))
  · exact Classical.byContradiction fun hx => h1 (.inr (.inr (.inl ⟨hf, by omega⟩)))
  · exact Classical.byContradiction fun hx => h1 (.inr (.inr (.inr ⟨hf, hx⟩)))
  · exact Classical.byContradiction fun hx => h3 (.inl ⟨hf, by omega⟩)
  · exact Classical.byContradiction fun hx => h3 (.inr ⟨hf, by omega⟩)
  · have : wordOK t = true := by
      cases hw : wordOK t with
      | true => rfl
      | false => exact absurd ⟨hf, hw⟩ h4
    unfold wordOK at this
    simp at this
    omega
theorem uMost_le (k : Nat) : uMost k ≤ 1073741824 := by unfold uMost; split <;> (try split) <;> omega

theorem encV_assoc (k : Nat) (o : List UInt8) (n i : Nat) (t : List UInt8) :
    encV k o n i t = encNat k ++ ((if uOwner k then encText o else []) ++ ((if uNumber k then encNat n else []) ++ ((if uIndex k then encNat i else []) ++ ((if uText k then encText t else []) ++ [])))) := by
  simp [encV]

/-- Decode of the encoding of a valid name. -/
theorem decRes_fwd {k : Nat} {o : List UInt8} {n i : Nat} {t : List UInt8} (h : Good k o n i t) : decRes (encV k o n i t) = some (k, o, n, i, t) := by
  obtain ⟨p1, p2, p3, p4, p5, p6, p7⟩ := h.parts
  have hk2 := h.k2
  have hol := h.ol
  have hum := uMost_le k
  have e1 : ∀ r, dk (encNat k ++ r) = (k, ⟨r, 0⟩) := fun r => num_fwd k 20 r (by omega) (by omega)
  have e2 : ∀ r, dOwner k ⟨(if uOwner k then encText o else []) ++ r, 0⟩ = (o, ⟨r, 0⟩) := fun r => by
    unfold dOwner
    cases hf : uOwner k
    · simp [p1 hf]
    · simp only [if_true]; exact text_fwd o _ r (by omega) hol
  have e3 : ∀ r, dNumber k ⟨(if uNumber k then encNat n else []) ++ r, 0⟩ = (n, ⟨r, 0⟩) := fun r => by
    unfold dNumber
    cases hf : uNumber k
    · simp [p2 hf]
    · have := p5 hf; simp only [if_true]; exact num_fwd n _ r (by omega) (by omega)
  have e4 : ∀ r, dIndex k ⟨(if uIndex k then encNat i else []) ++ r, 0⟩ = (i, ⟨r, 0⟩) := fun r => by
    unfold dIndex
    cases hf : uIndex k
    · simp [p3 hf]
    · have := p6 hf; simp only [if_true]; exact num_fwd i _ r (by omega) (by omega)
  have e5 : ∀ r, dText k ⟨(if uText k then encText t else []) ++ r, 0⟩ = (t, ⟨r, 0⟩) := fun r => by
    unfold dText
    cases hf : uText k
    · simp [p4 hf]
    · have := p7 hf; simp only [if_true]; exact text_fwd t _ r (by omega) (by omega)
  rw [encV_assoc]
  unfold decRes
  simp only [e1, e2, e3, e4, e5]
  rw [if_pos ⟨by simp [rclose], h.c⟩]
/-- The reference's, too. -/
theorem refRes_fwd {k : Nat} {o : List UInt8} {n i : Nat} {t : List UInt8} (h : Good k o n i t) : refRes (encV k o n i t) = some ((k : Int), o, (n : Int), (i : Int), t) := by
  obtain ⟨p1, p2, p3, p4, p5, p6, p7⟩ := h.parts
  have hk2 := h.k2
  have hol := h.ol
  have hum := uMost_le k
  have e1 : ∀ r, rTake (encNat k ++ r) = ((k : Int), r) := fun r => take_fwd k r (by omega)
  have e2 : ∀ r, gOwner k ((if uOwner k then encText o else []) ++ r) = (o, r) := fun r => by
    unfold gOwner
    simp only [Int.toNat_natCast]
    rcases Bool.eq_false_or_eq_true (uOwner k) with hf | hf
    · simp only [hf, if_true]; exact piece_fwd o r (by omega)
    · simp [hf, p1 hf]
  have e3 : ∀ r, gNumber k ((if uNumber k then encNat n else []) ++ r) = ((n : Int), r) := fun r => by
    unfold gNumber
    simp only [Int.toNat_natCast]
    rcases Bool.eq_false_or_eq_true (uNumber k) with hf | hf
    · have := p5 hf; simp only [hf, if_true]; exact take_fwd n r (by omega)
    · simp [hf, p2 hf]
  have e4 : ∀ r, gIndex k ((if uIndex k then encNat i else []) ++ r) = ((i : Int), r) := fun r => by
    unfold gIndex
    simp only [Int.toNat_natCast]
    rcases Bool.eq_false_or_eq_true (uIndex k) with hf | hf
    · have := p6 hf; simp only [hf, if_true]; exact take_fwd i r (by omega)
    · simp [hf, p3 hf]
  have e5 : ∀ r, gText k ((if uText k then encText t else []) ++ r) = (t, r) := fun r => by
    unfold gText
    simp only [Int.toNat_natCast]
    rcases Bool.eq_false_or_eq_true (uText k) with hf | hf
    · have := p7 hf; simp only [hf, if_true]; exact piece_fwd t r (by omega)
    · simp [hf, p4 hf]
  have hE := encV_assoc k o n i t
  have hr : refRes (encNat k ++ ((if uOwner k then encText o else []) ++ ((if uNumber k then encNat n else []) ++ ((if uIndex k then encNat i else []) ++ ((if uText k then encText t else []) ++ []))))) = some ((k : Int), o, (n : Int), (i : Int), t) := by
    unfold refRes
    simp only [e1, e2, e3, e4, e5]
    rw [if_pos ⟨h.c, by simp only [Int.toNat_natCast]; exact hE, trivial⟩]
  rw [hE]; exact hr

theorem dOwner_bwd {k : Nat} {st : RS} (h : (dOwner k st).2.e = 0) : st.e = 0 ∧ st.rest = (if uOwner k then encText (dOwner k st).1 else []) ++ (dOwner k st).2.rest := by
  unfold dOwner at h ⊢
  rcases Bool.eq_false_or_eq_true (uOwner k) with hf | hf
  · simp only [hf, if_true] at h ⊢; exact text_bwd h
  · simp [hf] at h ⊢; exact h
theorem dNumber_bwd {k : Nat} {st : RS} (h : (dNumber k st).2.e = 0) : st.e = 0 ∧ st.rest = (if uNumber k then encNat (dNumber k st).1 else []) ++ (dNumber k st).2.rest := by
  unfold dNumber at h ⊢
  rcases Bool.eq_false_or_eq_true (uNumber k) with hf | hf
  · simp only [hf, if_true] at h ⊢; exact ⟨(num_bwd h).1, (num_bwd h).2.1⟩
  · simp [hf] at h ⊢; exact h
theorem dIndex_bwd {k : Nat} {st : RS} (h : (dIndex k st).2.e = 0) : st.e = 0 ∧ st.rest = (if uIndex k then encNat (dIndex k st).1 else []) ++ (dIndex k st).2.rest := by
  unfold dIndex at h ⊢
  rcases Bool.eq_false_or_eq_true (uIndex k) with hf | hf
  · simp only [hf, if_true] at h ⊢; exact ⟨(num_bwd h).1, (num_bwd h).2.1⟩
  · simp [hf] at h ⊢; exact h
theorem dText_bwd {k : Nat} {st : RS} (h : (dText k st).2.e = 0) : st.e = 0 ∧ st.rest = (if uText k then encText (dText k st).1 else []) ++ (dText k st).2.rest := by
  unfold dText at h ⊢
  rcases Bool.eq_false_or_eq_true (uText k) with hf | hf
  · simp only [hf, if_true] at h ⊢; exact text_bwd h
  · simp [hf] at h ⊢; exact h
theorem rclose_zero {s : RS} (h : rclose s = 0) : s.e = 0 ∧ s.rest = [] := by
  unfold rclose at h
  by_cases he : s.e = 0
  · rw [if_neg (by simpa using he)] at h
    by_cases hr : s.rest = []
    · exact ⟨he, hr⟩
    · rw [if_neg hr] at h; cases h
  · rw [if_pos he] at h; exact absurd h he
theorem decRes_bwd {s : List UInt8} (hs : s.length ≤ 16777216) {k : Nat} {o : List UInt8} {n i : Nat} {t : List UInt8} (h : decRes s = some (k, o, n, i, t)) : Good k o n i t ∧ encV k o n i t = s := by
  obtain ⟨⟨k', s1⟩, hk⟩ : ∃ x, dk s = x := ⟨_, rfl⟩
  obtain ⟨⟨o', s2⟩, ho⟩ : ∃ x, dOwner k' s1 = x := ⟨_, rfl⟩
  obtain ⟨⟨n', s3⟩, hn⟩ : ∃ x, dNumber k' s2 = x := ⟨_, rfl⟩
  obtain ⟨⟨i', s4⟩, hi⟩ : ∃ x, dIndex k' s3 = x := ⟨_, rfl⟩
  obtain ⟨⟨t', s5⟩, ht⟩ : ∃ x, dText k' s4 = x := ⟨_, rfl⟩
  unfold decRes at h
  simp only [hk, ho, hn, hi, ht] at h
  split at h
  case isFalse => cases h
  rename_i hx
  simp only [Option.some.injEq, Prod.mk.injEq] at h
  obtain ⟨rfl, rfl, rfl, rfl, rfl⟩ := h
  obtain ⟨hcl, hc⟩ := hx
  obtain ⟨c5, r5⟩ := rclose_zero hcl
  have b4 := dText_bwd (k := k') (st := s4) (by rw [ht]; exact c5)
  rw [ht] at b4
  have b3 := dIndex_bwd (k := k') (st := s3) (by rw [hi]; exact b4.1)
  rw [hi] at b3
  have b2 := dNumber_bwd (k := k') (st := s2) (by rw [hn]; exact b3.1)
  rw [hn] at b2
  have b1 := dOwner_bwd (k := k') (st := s1) (by rw [ho]; exact b2.1)
  rw [ho] at b1
  have b0 := num_bwd (most := 20) (st := ⟨s, 0⟩) (by have := congrArg (fun x => x.2.e) hk; exact this.trans b1.1)
  have hk' : rstep 0 (pNum 20) ⟨s, 0⟩ = (k', s1) := hk
  rw [hk'] at b0
  have henc : encV k' o' n' i' t' = s := by
    rw [encV_assoc]
    have e0 : s = encNat k' ++ s1.rest := b0.2.1
    rw [e0, b1.2, b2.2, b3.2, b4.2]
    simp only [r5]
  refine ⟨⟨hc, ?_, ?_, ?_⟩, henc⟩
  · rcases Nat.eq_zero_or_pos k' with h | h
    · subst h; rw [checkV_bad (by simp)] at hc; cases hc
    · exact h
  · rcases Nat.lt_or_ge 20 k' with h | h
    · rw [checkV_bad (by simp; omega)] at hc; cases hc
    · exact h
  · have h1 : o'.length ≤ s1.rest.length := by
      have := congrArg List.length (show s1.rest = _ from b1.2)
      rw [List.length_append] at this
      unfold dOwner at ho
      rcases Bool.eq_false_or_eq_true (uOwner k') with hf | hf
      · simp only [hf, if_true, encText, List.length_append] at this; omega
      · simp [hf] at ho; have e : o' = [] := by first | exact ho.1 | exact ho.1.symm
        rw [e]; simp
    have h2 := congrArg List.length (show s = _ from b0.2.1)
    rw [List.length_append] at h2
    have h3 : s1.rest.length ≤ s.length := by simp only at h2; omega
    omega

theorem refRes_bwd {s : List UInt8} {k : Int} {o : List UInt8} {n i : Int} {t : List UInt8} (h : refRes s = some (k, o, n, i, t)) :
    checkV ⟨k, o, n, i, t⟩ = 0 ∧ encV k.toNat o n.toNat i.toNat t = s := by
  unfold refRes at h
  simp only at h
  split at h
  · rename_i hx
    simp only [Option.some.injEq, Prod.mk.injEq] at h
    obtain ⟨rfl, rfl, rfl, rfl, rfl⟩ := h
    exact ⟨hx.1, hx.2.1⟩
  · cases h
theorem checkV_nat {k : Nat} {o t : List UInt8} {n i : Int} (hk1 : 1 ≤ k) (hk2 : k ≤ 20) (h : checkV ⟨k, o, n, i, t⟩ = 0) : 0 ≤ n ∧ 0 ≤ i := by
  have h1 := checkV_small hk1 hk2 h
  rw [checkV_core hk1 hk2] at h
  unfold checkB at h
  split at h
  · cases h
  rename_i h2
  constructor
  · rcases Bool.eq_false_or_eq_true (uNumber k) with hf | hf
    · exact h1.1 hf
    · rcases Int.lt_trichotomy n 0 with hx | hx | hx
      · exact absurd (.inr (.inl ⟨hf, by omega⟩)) h2
      · omega
      · omega
  · rcases Bool.eq_false_or_eq_true (uIndex k) with hf | hf
    · exact h1.2.2.1 hf
    · rcases Int.lt_trichotomy i 0 with hx | hx | hx
      · exact absurd (.inr (.inr (.inl ⟨hf, by omega⟩))) h2
      · omega
      · omega

def castRes : Option (Nat × List UInt8 × Nat × Nat × List UInt8) → Option (Int × List UInt8 × Int × Int × List UInt8)
  | some (k, o, n, i, t) => some ((k : Int), o, (n : Int), (i : Int), t)
  | none => none
/-- The two agree on every text. -/
theorem dec_agree (s : List UInt8) (hs : s.length ≤ 16777216) : refRes s = castRes (decRes s) := by
  cases hd : decRes s with
  | some x =>
    obtain ⟨k, o, n, i, t⟩ := x
    obtain ⟨hg, he⟩ := decRes_bwd hs hd
    have := refRes_fwd hg
    rw [he] at this
    rw [this]; rfl
  | none =>
    cases hr : refRes s with
    | none => rfl
    | some y =>
      exfalso
      obtain ⟨k, o, n, i, t⟩ := y
      obtain ⟨hc, he⟩ := refRes_bwd hr
      obtain ⟨kk, rfl, hk1, hk2⟩ := encode_any_err hc
      obtain ⟨hn, hi⟩ := checkV_nat hk1 hk2 hc
      obtain ⟨n, rfl⟩ := Int.eq_ofNat_of_zero_le hn
      obtain ⟨i, rfl⟩ := Int.eq_ofNat_of_zero_le hi
      simp only [Int.toNat_natCast] at he
      have hol : o.length ≤ 16777216 := by
        have hl := congrArg List.length he
        rw [encV_assoc] at hl
        simp only [List.length_append] at hl
        rcases Bool.eq_false_or_eq_true (uOwner kk) with hf | hf
        · simp only [hf, if_true, encText, List.length_append] at hl; omega
        · have : o = [] := by
            rw [checkV_core hk1 hk2] at hc
            unfold checkB at hc
            split at hc
            · cases hc
            rename_i h2
            exact Classical.byContradiction fun hx => h2 (.inl ⟨hf, hx⟩)
          rw [this]; simp
      have := decRes_fwd (k := kk) (o := o) (n := n) (i := i) (t := t) ⟨hc, hk1, hk2, hol⟩
      rw [he] at this
      rw [this] at hd
      cases hd
end Go.Proofs.YtedlfmjgbehgkaaGreatDoor

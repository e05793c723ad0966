/- Plain: what the reader's steps make of encodings, there and back. Plain: mailboxes: the first error of one, its encoding, what decodes it; the package's limits and the document's agree. -/
import Derived.Test.YtlaihnbappfbfaaGreatDoorA3
import Derived.Test.YtlaihnbappfbfaaGreatDoorA1
namespace Go.Proofs.YtlaihnbappfbfaaGreatDoor

theorem num_fwd (n : Nat) (most : Int) (r : List UInt8) (hn : n < 2 ^ 63) (hm : (n : Int) ≤ most) : rstep 0 (pNum most) ⟨encNat n ++ r, 0⟩ = (n, ⟨r, 0⟩) := by
  have hp := parse9_encNat n r hn
  have hq : pNum most (encNat n ++ r) = (n, (encNat n).length, 0) := by
    unfold pNum
    rw [hp, if_neg (by simp; omega)]
  unfold rstep
  rw [if_neg (by simp)]
  simp only [hq]
  simp
theorem num_bwd {most : Int} {st : RS} (h : (rstep 0 (pNum most) st).2.e = 0) : st.e = 0 ∧ st.rest = encNat (rstep 0 (pNum most) st).1 ++ (rstep 0 (pNum most) st).2.rest ∧ (rstep 0 (pNum most) st).1 < 2 ^ 63 := by
  unfold rstep at h ⊢
  by_cases he : st.e = 0
  · rw [if_neg (by simpa using he)] at h ⊢
    by_cases hp : (pNum most st.rest).2.2 = 0
    · rw [if_neg (by simpa using hp)]
      have hq : pNum most st.rest = parse9 st.rest := by
        unfold pNum at hp ⊢
        split
        · rw [if_pos ‹_›] at hp; simp at hp
        · rfl
      rw [hq] at hp ⊢
      have := parse9_ok st.rest (parse9 st.rest).1 (parse9 st.rest).2.1 (by rw [← hp])
      exact ⟨he, by simp only [this.1, List.take_append_drop], this.2.2.2.2⟩
    · rw [if_pos (by simpa using hp)] at h
      exact absurd h hp
  · rw [if_pos (by simpa using he)] at h
    exact absurd h he
theorem text_fwd (t : List UInt8) (most : Int) (r : List UInt8) (hm : (t.length : Int) ≤ most) (h2 : t.length ≤ 16777216) : rstep [] (pText most) ⟨encText t ++ r, 0⟩ = (t, ⟨r, 0⟩) := by
  have hp := parse9_encNat t.length (t ++ r) (by omega)
  have he : encText t ++ r = encNat t.length ++ (t ++ r) := by simp [encText]
  have hq : pText most (encText t ++ r) = (t, (encText t).length, 0) := by
    unfold pText
    rw [he, hp, if_neg (by simp), if_neg (by simp; omega), if_neg (by simp; omega)]
    simp [encText]
  unfold rstep
  rw [if_neg (by simp)]
  simp only [hq]
  simp
theorem text_bwd {most : Int} {st : RS} (h : (rstep [] (pText most) st).2.e = 0) : st.e = 0 ∧ st.rest = encText (rstep [] (pText most) st).1 ++ (rstep [] (pText most) st).2.rest := by
  unfold rstep at h ⊢
  by_cases he : st.e = 0
  · rw [if_neg (by simpa using he)] at h ⊢
    by_cases hp : (pText most st.rest).2.2 = 0
    · rw [if_neg (by simpa using hp)]
      refine ⟨he, ?_⟩
      unfold pText at hp ⊢
      split
      · rw [if_pos ‹_›] at hp; exact absurd hp ‹_›
      split
      · rw [if_neg ‹_›, if_pos ‹_›] at hp; simp at hp
      split
      · rw [if_neg ‹_›, if_neg ‹_›, if_pos ‹_›] at hp; simp at hp
      · rename_i h1 h2 h3
        simp only [ne_eq, Decidable.not_not] at h1
        have hk := parse9_ok st.rest (parse9 st.rest).1 (parse9 st.rest).2.1 (by rw [← h1])
        have hl : ((st.rest.drop (parse9 st.rest).2.1).take (parse9 st.rest).1).length = (parse9 st.rest).1 := by
          rw [List.length_take, List.length_drop]; omega
        simp only [encText, hl]
        rw [hk.1, List.append_assoc, ← List.drop_drop, List.take_append_drop, List.take_append_drop]
    · rw [if_pos (by simpa using hp)] at h
      exact absurd h hp
  · rw [if_pos (by simpa using he)] at h
    exact absurd h he
theorem rclose_zero {s : RS} (h : rclose s = 0) : s.e = 0 ∧ s.rest = [] := by
  unfold rclose at h
  by_cases he : s.e = 0
  · rw [if_neg (by simpa using he)] at h
    by_cases hr : s.rest = []
    · exact ⟨he, hr⟩
    · rw [if_neg hr] at h; cases h
  · rw [if_pos he] at h; exact absurd h he
theorem num_le {most : Int} {st : RS} (h : (rstep 0 (pNum most) st).2.e = 0) : ((rstep 0 (pNum most) st).1 : Int) ≤ most := by
  unfold rstep at h ⊢
  by_cases he : st.e = 0
  · rw [if_neg (by simpa using he)] at h ⊢
    by_cases hp : (pNum most st.rest).2.2 = 0
    · rw [if_neg (by simpa using hp)]
      unfold pNum at hp ⊢
      split
      · rw [if_pos ‹_›] at hp; simp at hp
      · rename_i h1
        rw [if_neg h1] at hp
        simp only
        have := fun h => h1 ⟨hp, h⟩
        omega
    · rw [if_pos (by simpa using hp)] at h
      exact absurd h hp
  · rw [if_pos (by simpa using he)] at h
    exact absurd h he
theorem text_le {most : Int} {st : RS} (h : (rstep [] (pText most) st).2.e = 0) : ((rstep [] (pText most) st).1.length : Int) ≤ most := by
  unfold rstep at h ⊢
  by_cases he : st.e = 0
  · rw [if_neg (by simpa using he)] at h ⊢
    by_cases hp : (pText most st.rest).2.2 = 0
    · rw [if_neg (by simpa using hp)]
      unfold pText at hp ⊢
      split
      · rw [if_pos ‹_›] at hp; exact absurd hp ‹_›
      split
      · rw [if_neg ‹_›, if_pos ‹_›] at hp; simp at hp
      split
      · rw [if_neg ‹_›, if_neg ‹_›, if_pos ‹_›] at hp; simp at hp
      · simp only [List.length_take]
        omega
    · rw [if_pos (by simpa using hp)] at h
      exact absurd h hp
  · rw [if_pos (by simpa using he)] at h
    exact absurd h he
def encFlag (b : Bool) : List UInt8 := [if b then 1 else 0]
theorem flag_fwd (b : Bool) (r : List UInt8) : rstep false pFlag ⟨encFlag b ++ r, 0⟩ = (b, ⟨r, 0⟩) := by
  unfold rstep
  cases b <;> simp [encFlag, pFlag]
theorem flag_bwd {st : RS} (h : (rstep false pFlag st).2.e = 0) : st.e = 0 ∧ st.rest = encFlag (rstep false pFlag st).1 ++ (rstep false pFlag st).2.rest := by
  unfold rstep at h ⊢
  by_cases he : st.e = 0
  · rw [if_neg (by simpa using he)] at h ⊢
    by_cases hp : (pFlag st.rest).2.2 = 0
    · rw [if_neg (by simpa using hp)]
      refine ⟨he, ?_⟩
      cases hr : st.rest with
      | nil => rw [hr] at hp; simp [pFlag] at hp
      | cons c l =>
        rw [hr] at hp
        unfold pFlag at hp ⊢
        simp only at hp ⊢
        split
        · rw [if_pos ‹_›] at hp; simp at hp
        · rename_i hc
          have h01 : c.toNat = 0 ∨ c.toNat = 1 := by omega
          rcases h01 with h0 | h0
          · have : c = 0 := UInt8.toNat_inj.1 h0
            subst this; simp [encFlag]
          · have : c = 1 := UInt8.toNat_inj.1 h0
            subst this; simp [encFlag]
    · rw [if_pos (by simpa using hp)] at h
      exact absurd h hp
  · rw [if_pos (by simpa using he)] at h
    exact absurd h he
end Go.Proofs.YtlaihnbappfbfaaGreatDoor

namespace Go.Proofs.YtlaihnbappfbfaaGreatDoor

structure MsgV where
  number : Int
  sender : List UInt8
  second : Int
  text : List UInt8
  seen : Bool
structure BoxV where
  next : Int
  msgs : List MsgV
def msgE (m : MsgV) : Int :=
  if m.number < 0 ∨ 1048576 ≤ m.number then 2 else if (splitF m.sender).2.2 ≠ 0 then (splitF m.sender).2.2
  else if m.second < 0 ∨ 1073741824 < m.second then 2 else if 1024 < m.text.length then 5 else 0
def msgsE (next : Int) : Int → List MsgV → Int
  | _, [] => 0
  | last, m :: r => if msgE m ≠ 0 then msgE m else if m.number ≤ last then 32 else if next ≤ m.number then 10 else msgsE next m.number r
/-- The first error of a mailbox. -/
def boxE (b : BoxV) : Int := if b.next < 0 ∨ 1048576 < b.next then 2 else if 32 < b.msgs.length then 9 else msgsE b.next (-1) b.msgs
def encMsg (m : MsgV) : List UInt8 := encNat m.number.toNat ++ (encText m.sender ++ (encNat m.second.toNat ++ (encFlag m.seen ++ encText m.text)))
/-- The value of a mailbox. -/
def encBox (b : BoxV) : List UInt8 := encNat b.next.toNat ++ (encNat b.msgs.length ++ b.msgs.flatMap encMsg)
/-- A message is read, with limits of the number and of the sender's length. -/
def rdMsg (a c : Int) (st : RS) : MsgV × RS :=
  let x := rstep 0 (pNum a) st
  let f := rstep [] (pText c) x.2
  let s := rstep 0 (pNum 1073741824) f.2
  let g := rstep false pFlag s.2
  let t := rstep [] (pText 1024) g.2
  (⟨x.1, f.1, s.1, t.1, g.1⟩, t.2)
def rdMsgs (a c : Int) : Nat → RS → List MsgV × RS
  | 0, st => ([], st)
  | n + 1, st => ((rdMsg a c st).1 :: (rdMsgs a c n (rdMsg a c st).2).1, (rdMsgs a c n (rdMsg a c st).2).2)
/-- What was read, before it is checked. -/
def rdBox (a c : Int) (s : List UInt8) : BoxV × RS :=
  let x := rstep 0 (pNum 1048576) ⟨s, 0⟩
  let n := rstep 0 (pNum 32) x.2
  (⟨x.1, (rdMsgs a c n.1 n.2).1⟩, (rdMsgs a c n.1 n.2).2)
def decBox (a c : Int) (s : List UInt8) : Option BoxV :=
  if rclose (rdBox a c s).2 = 0 ∧ boxE (rdBox a c s).1 = 0 then some (rdBox a c s).1 else none

theorem splitF_len {s : List UInt8} (h : (splitF s).2.2 = 0) : s.length ≤ 49 := by
  have hj := join_split h
  unfold joinF at hj
  split at hj
  · simp at hj
  rename_i hu
  have hul : (splitF s).1.length ≤ 16 := by
    have : unameOK (splitF s).1 = true := by simpa using hu
    simp only [unameOK, Bool.and_eq_true, decide_eq_true_eq] at this
    exact this.1.1.2
  split at hj
  · simp only [Prod.mk.injEq, and_true] at hj; rw [← hj]; omega
  split at hj
  · simp only [Prod.mk.injEq] at hj; exact absurd hj.2 ‹_›
  · rename_i hh
    simp only [Prod.mk.injEq, and_true] at hj
    rw [← hj]
    have : (splitF s).2.1.length ≤ 32 := by
      unfold hostE at hh
      split at hh
      · simp at hh
      · omega
    simp; omega
theorem msgE_zero {m : MsgV} (h : msgE m = 0) : 0 ≤ m.number ∧ m.number < 1048576 ∧ (splitF m.sender).2.2 = 0 ∧ 0 ≤ m.second ∧ m.second ≤ 1073741824 ∧ m.text.length ≤ 1024 := by
  unfold msgE at h
  split at h
  · cases h
  split at h
  · rename_i h2; exact absurd h h2
  split at h
  · cases h
  split at h
  · cases h
  rename_i h1 h2 h3 h4
  refine ⟨by omega, by omega, by simpa using h2, by omega, by omega, by omega⟩
theorem msgsE_zero {next last : Int} {l : List MsgV} (h : msgsE next last l = 0) : ∀ m ∈ l, msgE m = 0 := by
  induction l generalizing last with
  | nil => intro m hm; cases hm
  | cons x r ih =>
    unfold msgsE at h
    split at h
    · rename_i h1; exact absurd h h1
    split at h
    · cases h
    split at h
    · cases h
    rename_i h1 _ _
    intro m hm
    rcases List.mem_cons.1 hm with rfl | hm
    · simpa using h1
    · exact ih h m hm
theorem boxE_zero {b : BoxV} (h : boxE b = 0) : 0 ≤ b.next ∧ b.next ≤ 1048576 ∧ b.msgs.length ≤ 32 ∧ msgsE b.next (-1) b.msgs = 0 := by
  unfold boxE at h
  split at h
  · cases h
  split at h
  · cases h
  exact ⟨by omega, by omega, by omega, h⟩
theorem rdMsg_fwd {a c : Int} (ha : 1048575 ≤ a) (hc : 49 ≤ c) {m : MsgV} (h : msgE m = 0) (r : List UInt8) : rdMsg a c ⟨encMsg m ++ r, 0⟩ = (m, ⟨r, 0⟩) := by
  obtain ⟨h1, h2, h3, h4, h5, h6⟩ := msgE_zero h
  have hl := splitF_len h3
  obtain ⟨k, f, s, t, g⟩ := m
  simp only at h1 h2 h3 h4 h5 h6 hl
  obtain ⟨k, rfl⟩ := Int.eq_ofNat_of_zero_le h1
  obtain ⟨s, rfl⟩ := Int.eq_ofNat_of_zero_le h4
  have e : encMsg ⟨k, f, s, t, g⟩ ++ r = encNat k ++ (encText f ++ (encNat s ++ (encFlag g ++ (encText t ++ r)))) := by simp [encMsg]
  unfold rdMsg
  simp only [e, num_fwd k a _ (by omega) (by omega), text_fwd f c _ (by omega) (by omega), num_fwd s 1073741824 _ (by omega) (by omega), flag_fwd, text_fwd t 1024 _ (by omega) (by omega)]
theorem rdMsgs_fwd {a c : Int} (ha : 1048575 ≤ a) (hc : 49 ≤ c) (l : List MsgV) (h : ∀ m ∈ l, msgE m = 0) (r : List UInt8) : rdMsgs a c l.length ⟨l.flatMap encMsg ++ r, 0⟩ = (l, ⟨r, 0⟩) := by
  induction l with
  | nil => rfl
  | cons m l ih =>
    have e : (m :: l).flatMap encMsg ++ r = encMsg m ++ (l.flatMap encMsg ++ r) := by simp
    rw [e, List.length_cons]
    unfold rdMsgs
    rw [rdMsg_fwd ha hc (h m (by simp)), ih (fun x hx => h x (by simp [hx]))]
/-- Decode of the value of a valid mailbox. -/
theorem decBox_fwd {a c : Int} (ha : 1048575 ≤ a) (hc : 49 ≤ c) {b : BoxV} (h : boxE b = 0) : decBox a c (encBox b) = some b := by
  obtain ⟨h1, h2, h3, h4⟩ := boxE_zero h
  have hm := msgsE_zero h4
  obtain ⟨n, l⟩ := b
  simp only at h1 h2 h3 hm
  obtain ⟨n, rfl⟩ := Int.eq_ofNat_of_zero_le h1
  have e : rdBox a c (encBox ⟨n, l⟩) = (⟨n, l⟩, ⟨[], 0⟩) := by
    unfold rdBox encBox
    have e2 := rdMsgs_fwd ha hc l hm []
    rw [List.append_nil] at e2
    simp only [Int.toNat_natCast, num_fwd n 1048576 _ (by omega) (by omega), num_fwd l.length 32 _ (by omega) (by omega), e2]
  unfold decBox
  rw [e, if_pos ⟨by simp [rclose], h⟩]
theorem rdMsg_bwd {a c : Int} {st : RS} (h : (rdMsg a c st).2.e = 0) : st.e = 0 ∧ st.rest = encMsg (rdMsg a c st).1 ++ (rdMsg a c st).2.rest := by
  unfold rdMsg at h ⊢
  simp only at h ⊢
  have b4 := text_bwd h
  have b3 := flag_bwd b4.1
  have b2 := num_bwd b3.1
  have b1 := text_bwd b2.1
  have b0 := num_bwd b1.1
  refine ⟨b0.1, ?_⟩
  simp only [encMsg, Int.toNat_natCast, List.append_assoc]
  rw [← b4.2, ← b3.2, ← b2.2.1, ← b1.2, ← b0.2.1]
theorem rdMsgs_bwd {a c : Int} (n : Nat) {st : RS} (h : (rdMsgs a c n st).2.e = 0) : st.e = 0 ∧ st.rest = (rdMsgs a c n st).1.flatMap encMsg ++ (rdMsgs a c n st).2.rest ∧ (rdMsgs a c n st).1.length = n := by
  induction n generalizing st with
  | zero => exact ⟨h, rfl, rfl⟩
  | succ n ih =>
    unfold rdMsgs at h ⊢
    simp only at h ⊢
    obtain ⟨i1, i2, i3⟩ := ih h
    obtain ⟨j1, j2⟩ := rdMsg_bwd i1
    refine ⟨j1, ?_, by simp [i3]⟩
    rw [List.flatMap_cons, List.append_assoc, ← i2, ← j2]
theorem rdBox_bwd {a c : Int} {s : List UInt8} (h : rclose (rdBox a c s).2 = 0) : encBox (rdBox a c s).1 = s := by
  obtain ⟨h1, h2⟩ := rclose_zero h
  unfold rdBox at h1 h2 ⊢
  simp only at h1 h2 ⊢
  obtain ⟨i1, i2, i3⟩ := rdMsgs_bwd _ h1
  have b1 := num_bwd i1
  have b0 := num_bwd b1.1
  rw [h2, List.append_nil] at i2
  simp only [encBox, Int.toNat_natCast, i3]
  rw [← i2, ← b1.2.1, ← b0.2.1]
/-- What decodes encodes to the same. -/
theorem decBox_bwd {a c : Int} {s : List UInt8} {b : BoxV} (h : decBox a c s = some b) : boxE b = 0 ∧ encBox b = s := by
  unfold decBox at h
  split at h
  · rename_i hx
    simp only [Option.some.injEq] at h
    subst h
    exact ⟨hx.2, rdBox_bwd hx.1⟩
  · cases h
/-- The limits do not matter. -/
theorem decBox_agree {a c a' c' : Int} (ha : 1048575 ≤ a) (hc : 49 ≤ c) (ha' : 1048575 ≤ a') (hc' : 49 ≤ c') (s : List UInt8) : decBox a c s = decBox a' c' s := by
  cases h : decBox a c s with
  | some b =>
    obtain ⟨h1, h2⟩ := decBox_bwd h
    rw [← h2, decBox_fwd ha' hc' h1]
  | none =>
    cases h' : decBox a' c' s with
    | none => rfl
    | some b =>
      obtain ⟨h1, h2⟩ := decBox_bwd h'
      rw [← h2, decBox_fwd ha hc h1] at h
      cases h
end Go.Proofs.YtlaihnbappfbfaaGreatDoor

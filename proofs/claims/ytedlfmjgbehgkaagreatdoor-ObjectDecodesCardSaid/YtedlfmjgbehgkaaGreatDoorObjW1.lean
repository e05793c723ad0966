/- Walks of object: Word, Check of a name; the table of the kinds. -/
import Derived.Test.YtedlfmjgbehgkaaGreatDoorLinW3
namespace Go.Proofs.YtedlfmjgbehgkaaGreatDoor
open Go.RowKit

/-- The table of the kinds: the word, and what the names of a kind use. -/
def uWord (k : Nat) : List UInt8 :=
  ([[], [112, 114, 111, 99, 101, 115, 115], [114, 101, 103, 105, 115, 116, 101, 114, 115], [112, 97, 103, 101], [116, 97, 98, 108, 101], [99, 111, 117, 110, 116, 101, 114], [112, 101, 110, 100, 105, 110, 103], [110, 111, 100, 101], [98, 108, 111, 99, 107], [101, 110, 116, 114, 121], [108, 105, 115, 116, 105, 110, 103], [112, 105, 112, 101], [108, 111, 99, 107], [116, 101, 114, 109, 105, 110, 97, 108], [97, 99, 99, 111, 117, 110, 116], [99, 108, 111, 99, 107], [112, 111, 114, 116], [98, 111, 120], [111, 117, 116], [115, 104, 101, 108, 108], [101, 112, 111, 99, 104]] : List (List UInt8)).getD k []
def uOwner (k : Nat) : Bool := (decide (1 ≤ k) && decide (k ≤ 12)) || k == 18 || k == 19
def uNumber (k : Nat) : Bool := (decide (7 ≤ k) && decide (k ≤ 13)) || k == 16 || k == 18
def uIndex (k : Nat) : Bool := k == 3 || k == 8 || k == 18
def uText (k : Nat) : Bool := k == 9 || k == 14 || k == 17
def uMost (k : Nat) : Nat := if k == 3 || k == 8 then 63 else if k == 18 then 1073741824 else 0
/-- The row of a kind, as cells. -/
def uRow (k : Nat) : List Value := [.string ⟨(uWord k).toArray⟩, .bool (uOwner k), .bool (uNumber k), .bool (uIndex k), .bool (uText k), .int .i64 (uMost k)]
/-- The table lies where the program has it. -/
def Usages (w : World) : Prop := ∀ k j, k < 21 → j < 6 → w.cell? ⟨0, k * 6 + j, none⟩ = (uRow k)[j]?
theorem Usages.mods {S : List Nat} {w w' : World} (h : Usages w) (hm : Mods S w w') (hS : 0 ∉ S) : Usages w' := by
  intro k j hk hj
  have := h k j hk hj
  have hlt : (uRow k)[j]? = some ((uRow k)[j]'(by simpa [uRow] using hj)) := List.getElem?_eq_getElem _
  rw [hlt] at this ⊢
  exact hm.keepS this hS
theorem Usages.lt {w : World} (h : Usages w) : 0 < w.heap.size := by
  have := h 0 0 (by omega) (by omega)
  exact lt_of_cell (a := ⟨0, 0, none⟩) (v := .string ⟨(uWord 0).toArray⟩) this

def isWordByte (c : UInt8) : Bool := decide (33 ≤ c.toNat) && decide (c.toNat ≤ 126) && !(c.toNat == 47)
def wordOK (s : List UInt8) : Bool := decide (s ≠ []) && decide (s.length ≤ 32) && s.all isWordByte
theorem isWordByte_iff (c : UInt8) : isWordByte c = true ↔ 33 ≤ (c.toNat : Int) ∧ (c.toNat : Int) ≤ 126 ∧ (c.toNat : Int) ≠ 47 := by
  simp [isWordByte]; omega

set_option maxRecDepth 100000 in
set_option maxHeartbeats 1000000 in
theorem word_any (s : ByteArray) (w : World) (hs : s.size ≤ 1000000000000) :
    Calls Tryz.prog 53 #[.string s] w fun e w' => e = .returned (.bool (wordOK s.data.toList)) ∧ w = w' := by
  have hsl := slen s
  by_cases h0 : s.data.toList = []
  · have hw : Hid (wordOK s.data.toList = false) := by show _ = _; simp [wordOK, h0]
    have h1 : s.toList = [] := by rw [ByteArray.toList_eq]; exact h0
    clear h0 hsl
    go_enter Tryz.func53, Tryz.ntmps53
    go_wp2
    go_ret
    rw [hw.out]; exact ⟨rfl, rfl⟩
  have h1 : s.toList ≠ [] := by rw [ByteArray.toList_eq]; exact h0
  have h1' : s.toList.isEmpty = false := by simpa using h1
  by_cases h2 : 32 < s.size
  · have hw : Hid (wordOK s.data.toList = false) := by show _ = _; simp [wordOK, hsl]; omega
    have h2' : (32 : Int) < (s.size : Int) := by omega
    clear h0 hsl h1
    go_enter Tryz.func53, Tryz.ntmps53
    go_wp2
    go_ret
    rw [hw.out]; exact ⟨rfl, rfl⟩
  have h2' : ¬ (32 : Int) < (s.size : Int) := by omega
  have h2'' : decide ((32 : Int) < (s.size : Int)) = false := by simpa using h2'
  have hw : Hid (wordOK s.data.toList = s.data.toList.all isWordByte) := by show _ = _; simp [wordOK, hsl, h0]; intro; omega
  have Hsl := Lib.hid hsl
  clear h0 hsl h1
  go_enter Tryz.func53, Tryz.ntmps53
  go_wp2
  go_loop [3, 13] (fun _ i => ∃ k : Nat, i = .int .i64 k ∧ k ≤ s.size ∧ Hid (s.data.toList.all isWordByte = (s.data.toList.drop k).all isWordByte)) (fun _ i => s.size - (intOf i).toNat)
  case atStart => exact ⟨0, rfl, by omega, rfl⟩
  case round =>
    obtain ⟨k, rfl, hk, ha⟩ := hrel
    by_cases hlt : k < s.size
    · have hd : s.data.toList.drop k = s[k]'hlt :: s.data.toList.drop (k + 1) := by rw [sget]; exact List.drop_eq_getElem_cons (by rw [Hsl.out]; exact hlt)
      by_cases hb : isWordByte (s[k]'hlt) = true
      · have hb' := (isWordByte_iff _).1 hb
        have ha' : Hid (s.data.toList.all isWordByte = (s.data.toList.drop (k + 1)).all isWordByte) := by
          show _ = _
          rw [ha.out, hd, List.all_cons, hb]; simp
        obtain ⟨c1, c2, c3⟩ := hb'
        have c3' : (((s[k]'hlt).toNat : Int) == 47) = false := by simpa using c3
        clear hd hb c3
        go_wp2
        go_round
        case rel => exact ⟨k + 1, by go_num, by omega, ha'⟩
        case measure => simp [intOf] <;> omega
      · have ha' : Hid (s.data.toList.all isWordByte = false) := by
          show _ = _
          rw [ha.out, hd, List.all_cons]
          simp [hb]
        have hb' := mt (isWordByte_iff _).2 hb
        have hb3 : ((s[k]'hlt).toNat : Int) < 33 ∨ 126 < ((s[k]'hlt).toNat : Int) ∨ (¬ ((s[k]'hlt).toNat : Int) < 33 ∧ ¬ 126 < ((s[k]'hlt).toNat : Int) ∧ (((s[k]'hlt).toNat : Int) == 47) = true) := by
          simp only [beq_iff_eq]; omega
        clear hd hb hb'
        rcases hb3 with hb3 | hb3 | ⟨hb3, hb4, hb5⟩
        all_goals
          go_wp2
          go_ret
          rw [hw.out, ha'.out]; exact ⟨rfl, rfl⟩
    · have ha' : Hid (s.data.toList.all isWordByte = true) := by
        show _ = _
        rw [ha.out, List.drop_eq_nil_of_le (by rw [Hsl.out]; omega)]; rfl
      go_wp2
      go_ret
      rw [hw.out, ha'.out]; exact ⟨rfl, rfl⟩
end Go.Proofs.YtedlfmjgbehgkaaGreatDoor
